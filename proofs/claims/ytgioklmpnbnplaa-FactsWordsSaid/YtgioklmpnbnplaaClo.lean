/- The walks of facts.uses, facts.close, Nullable and Generating. Conditions: none. -/
import Derived.Test.YtgioklmpnbnplaaSnd
import Derived.Test.YtgioklmpnbnplaaFq
import Derived.Test.YtgioklmpnbnplaaVj
set_option linter.unusedSimpArgs false
set_option linter.unusedVariables false
set_option maxRecDepth 100000
namespace Go.Proofs.Ytgioklmpnbnplaa
open Go.V

theorem SoundP.inR {g : PG} (h : SoundP g) : InR g.names.length g.prods := by
  intro p hp
  obtain ⟨i, hi, rfl⟩ := List.mem_iff_getElem.1 hp
  have := h.2.2 i hi
  exact ⟨⟨this.1, this.2.1⟩, fun s hs => (this.2.2.2.2 s hs).1⟩
abbrev IV := Value.int .i64
theorem close1_ok (a : Int) (n bi bw I base : Nat) (l : List Bool) (wv : Value) (work : List Int) (w : World) (h1 : w.heap[bi]? = some (.cells #[.slice (some ⟨I, 0, none⟩) n n] 53 (0, 0))) (hI : Own Value.bool 4 w I l) (hl : l.length = n)
    (h2 : w.heap[bw]? = some (.cells #[wv] 23 (0, 0))) (hW : Row IV base 3 w wv work) (hb : base ≤ w.heap.size) (hn : work.length < 1000000000) (ha0 : 0 ≤ a) (ha : a < n) :
    Ok Try.prog 134 (#[] ++ #[.int .i64 a] ++ #[pa (some ⟨bi, 0, none⟩) 0, pa (some ⟨bw, 0, none⟩) 0]) w fun v w' =>
      (l[a.toNat]? = some true ∧ w' = w) ∨ (l[a.toNat]? = some false ∧ ∃ wv', Own Value.bool 4 w' I (l.set a.toNat true) ∧ w'.heap[bw]? = some (.cells #[wv'] 23 (0, 0)) ∧ Row IV base 3 w' wv' (work ++ [a]) ∧
        Chg (fun k => k = I ∨ k = bw ∨ wv.ownBlock = some k) w w' ∧ (wv'.ownBlock = wv.ownBlock ∨ ∃ b, wv'.ownBlock = some b ∧ w.heap.size ≤ b)) := by
  show Ok Try.prog 134 #[.int .i64 a, pa (some ⟨bi, 0, none⟩) 0, pa (some ⟨bw, 0, none⟩) 0] w _
  have hal : a.toNat < l.length := by omega
  have hr := hI.rd a.toNat hal
  have hla : l[a.toNat]? = some l[a.toNat] := List.getElem?_eq_getElem hal
  (refine Ok.enter Try.func134 rfl (by kernel_rfl) (Nat.le_of_ble_eq_true rfl) ?_; simp only [Try.f134, S7])
  generalize hy : l[a.toNat] = y at *
  cases y with
  | true =>
    simp (disch := first | omega | assumption | (simp only [O1, World.size_alloc, World.size_setCell, World.size_drew]; first | done | omega)) only [O1, D2, ↓H0, S0, ↓S1, ↓S2, ↓S3, ↓S4, S5, S5b, S5c, ↓S6, S6b, M0, E0, ty, tl, te, tc, i64_wrap, u64_wrap, iaV_sl, iaV_arr, faV_pa, nck_pa, heap_new, heap_old, heap_set, ↓reduceIte, Nat.reduceEqDiff, Nat.reduceLT, Nat.reduceAdd, Int.reduceLT, Int.reduceLE, decide_false, decide_true, dec_true, dec_false, true_and, and_true, true_imp_iff, Bool.not_true, Bool.not_false, Option.map_none, Int.reduceToNat, Int.toNat_zero, Int.toNat_one, lkV_false, lkV_true, h1, h2, hr]
    exact .inl hla
  | false =>
    have hst := hI.sto (P := Try.prog) (t := 4) (by simp only [ty]) a.toNat hal true rfl
    have hIlt := hI.lt
    have hne1 : bi ≠ I := hI.ne h1 (by decide)
    have hne2 : bw ≠ I := hI.ne h2 (by decide)
    have hne3 : wv.ownBlock ≠ some I := hW.ne hI (by decide)
    have hne4 : wv.ownBlock ≠ some bw := hW.ne h2 (by decide)
    have hbw := lt_heap h2
    simp (disch := first | omega | assumption | (simp only [O1, World.size_alloc, World.size_setCell, World.size_drew]; first | done | omega)) only [O1, D2, ↓H0, S0, ↓S1, ↓S2, ↓S3, ↓S4, S5, S5b, S5c, ↓S6, S6b, M0, E0, ty, tl, te, tc, i64_wrap, u64_wrap, iaV_sl, iaV_arr, faV_pa, nck_pa, heap_new, heap_old, heap_set, ↓reduceIte, Nat.reduceEqDiff, Nat.reduceLT, Nat.reduceAdd, Int.reduceLT, Int.reduceLE, decide_false, decide_true, dec_true, dec_false, true_and, and_true, true_imp_iff, Bool.not_true, Bool.not_false, Option.map_none, Int.reduceToNat, Int.toNat_zero, Int.toNat_one, lkV_false, lkV_true, h1, h2, hr, hst, bsl1 sl23]
    have hg1 : w.grownBy (w.setCell ⟨I, a.toNat, none⟩ (.bool true)) (some I) := set_grown
    have hW1 : Row IV base 3 (w.setCell ⟨I, a.toNat, none⟩ (.bool true)) wv work := hW.kept hg1 (.inr hne3)
    have hI1 := hI.set a.toNat true
    have hs1 : (w.setCell ⟨I, a.toNat, none⟩ (.bool true)).heap.size = w.heap.size := by simp
    generalize hX : w.setCell ⟨I, a.toNat, none⟩ (Value.bool true) = X at *
    have h2X : X.heap[bw]? = some (.cells #[wv] 23 (0, 0)) := (hg1.block bw hbw (by simpa using hne2)).trans h2
    rw [← hs1]
    refine RunA_row (enc := IV) sl23 hW1 rfl (by omega) (by omega) (by omega) ?_
    intro wv' Y hR hg2 hsz hv
    have h2Y : Y.heap[bw]? = some (.cells #[wv] 23 (0, 0)) := (hg2.block bw (by omega) (fun e => hne4 e.symm)).trans h2X
    have hIY : Own Value.bool 4 Y I (l.set a.toNat true) := hI1.hp (hg2.block I (by omega) (fun e => hne3 e.symm))
    have hst2 := sto_own (P := Try.prog) (T := 23) (w := Y) (g := bw) (o := 0) (k := 0) (x := wv') (by simp only [ty]) h2Y (by simp) hR.one
    have hneR : wv'.ownBlock ≠ some bw := hR.ne h2Y (by decide)
    simp (disch := first | omega | assumption | (simp only [O1, World.size_alloc, World.size_setCell, World.size_drew]; first | done | omega)) only [O1, D2, ↓H0, S0, ↓S1, ↓S2, ↓S3, ↓S4, S5, S5b, S5c, ↓S6, S6b, M0, E0, ty, tl, te, tc, i64_wrap, u64_wrap, iaV_sl, iaV_arr, faV_pa, nck_pa, heap_new, heap_old, heap_set, ↓reduceIte, Nat.reduceEqDiff, Nat.reduceLT, Nat.reduceAdd, Int.reduceLT, Int.reduceLE, decide_false, decide_true, dec_true, dec_false, true_and, and_true, true_imp_iff, Bool.not_true, Bool.not_false, Option.map_none, Int.reduceToNat, Int.toNat_zero, Int.toNat_one, lkV_false, lkV_true, hst2]
    refine .inr ⟨hla, wv', hIY.hp (heap_set _ (by omega)), by rw [h2Y]; rfl, hR.kept set_grown (.inr hneR), ?_, ?_⟩
    · exact ((Chg.grown hg1 (fun k hk => by cases hk; exact .inl rfl)).tr (Chg.grown hg2 (M := fun k => wv.ownBlock = some k) (fun k hk => hk)) (fun x _ h => .inr (.inr h))).tr (Chg.grown (row := some bw) set_grown (M := fun k => k = bw) (fun k hk => by cases hk; rfl)) (fun x _ h => .inr (.inl h))
    · rcases hv with hv | ⟨b, h, h'⟩
      · exact .inl hv
      · exact .inr ⟨b, h, by omega⟩
theorem usesUp_len {ps : List (Int × List Int)} {s : Int} {m : Nat} (h : ∀ p ∈ ps, p.2.length ≤ 16) : (usesUp ps s m).length ≤ 16 * m := by
  induction m with
  | zero => simp [usesUp]
  | succ m ih =>
    rw [usesUp, List.length_append, List.length_replicate]
    have : (ps.getD m (0, [])).2.count s ≤ 16 := by
      rw [List.getD_eq_getElem?_getD]
      cases hq : ps[m]? with
      | none => simp
      | some p => exact Nat.le_trans List.count_le_length (h p (List.mem_of_getElem? hq))
    omega
theorem SoundP.sides {g : PG} (h : SoundP g) : ∀ p ∈ g.prods, p.2.length ≤ 16 := by
  intro p hp
  obtain ⟨i, hi, rfl⟩ := List.mem_iff_getElem.1 hp
  exact (h.2.2 i hi).2.2.1
set_option maxHeartbeats 1000000 in
theorem uses_ok (v : Value) (g : PG) (w : World) (hg : RepPG w v g) (hS : SoundP g) :
    Ok Try.prog 135 #[v] w fun v w' => (∃ G, v = .slice (some ⟨G, 0, none⟩) g.names.length g.names.length ∧ w.heap.size ≤ G ∧ RowsO IV w.heap.size 3 23 w' G ((List.range g.names.length).map fun s : Nat => usesUp g.prods s g.prods.length)) ∧ Ext w w' := by
  have hin := hS.inR
  have hside := hS.sides
  have hn1 := hS.1.2.1
  have hn2 := hS.2.1.2.2.1
  obtain ⟨nv, tv, pv, rfl, hN, hT, hp⟩ := hg
  obtain ⟨A, a, rfl, ha, hA⟩ := hN
  obtain ⟨C, c, rfl, hc, hC⟩ := hp
  (refine Ok.enter Try.func135 rfl (by kernel_rfl) (Nat.le_of_ble_eq_true rfl) ?_; simp only [Try.f135, S7])
  simp (disch := first | omega | assumption | (simp only [O1, World.size_alloc, World.size_setCell, World.size_drew]; first | done | omega)) only [O1, D2, ↓H0, S0, ↓S1, ↓S2, ↓S3, ↓S4, S5, S5b, S5c, ↓S6, S6b, M0, E0, ty, tl, te, tc, i64_wrap, u64_wrap, iaV_sl, iaV_arr, faV_pa, nck_pa, heap_new, heap_old, heap_set, ↓reduceIte, Nat.reduceEqDiff, Nat.reduceLT, Nat.reduceAdd, Int.reduceLT, Int.reduceLE, decide_false, decide_true, dec_true, dec_false, true_and, and_true, true_imp_iff, Bool.not_true, Bool.not_false, Option.map_none, Int.reduceToNat, Int.toNat_zero, Int.toNat_one, lkV_false, lkV_true]
  have hx0 := (Ext.rfl' w).al (.cells #[.int .i64 g.start, .int .i64 g.rules, .slice A g.names.length a, tv, .slice C g.prods.length c] 41)
  refine RunM_one sl44 rfl (by omega) (by omega) ?_
  have hx1 := hx0.al (.cells (List.replicate g.names.length (.slice none 0 0)).toArray 23)
  have hO := RowsO.new (enc := IV) (base := w.heap.size) (e := 3) (T := 23) (g := w.heap.size + 1) ((w.alloc (.cells #[.int .i64 g.start, .int .i64 g.rules, .slice A g.names.length a, tv, .slice C g.prods.length c] 41)).alloc (.cells (List.replicate g.names.length (.slice none 0 0)).toArray 23)) g.names.length (heap_new _ (by simp))
  simp (disch := first | omega | assumption | (simp only [O1, World.size_alloc, World.size_setCell, World.size_drew]; first | done | omega)) only [O1, D2, ↓H0, S0, ↓S1, ↓S2, ↓S3, ↓S4, S5, S5b, S5c, ↓S6, S6b, M0, E0, ty, tl, te, tc, i64_wrap, u64_wrap, iaV_sl, iaV_arr, faV_pa, nck_pa, heap_new, heap_old, heap_set, ↓reduceIte, Nat.reduceEqDiff, Nat.reduceLT, Nat.reduceAdd, Int.reduceLT, Int.reduceLE, decide_false, decide_true, dec_true, dec_false, true_and, and_true, true_imp_iff, Bool.not_true, Bool.not_false, Option.map_none, Int.reduceToNat, Int.toNat_zero, Int.toNat_one, lkV_false, lkV_true]
  generalize hG : w.heap.size + 1 = G at *
  refine ⟨fun k t U => ∃ (i : Nat) (F : List (List Int)), k + i = g.prods.length ∧ RowsO IV w.heap.size 3 23 U G F ∧ F.length = g.names.length ∧ (∀ s : Nat, s < g.names.length → F[s]? = some (usesUp g.prods s i)) ∧ Ext w U ∧
    t 3 = .slice (some ⟨G, 0, none⟩) g.names.length g.names.length ∧ t 13 = .slice C g.prods.length c ∧ t 14 = .int .i64 g.prods.length ∧ t 15 = .int .i64 i, ⟨g.prods.length, 0, _, by omega, hO, by simp, fun s hs => by simp [usesUp, List.getElem?_replicate, hs], hx1, ?_⟩, ?_⟩
  · simp (disch := first | omega | assumption | (simp only [O1, World.size_alloc, World.size_setCell, World.size_drew]; first | done | omega)) only [O1, D2, ↓H0, S0, ↓S1, ↓S2, ↓S3, ↓S4, S5, S5b, S5c, ↓S6, S6b, M0, E0, ty, tl, te, tc, i64_wrap, u64_wrap, iaV_sl, iaV_arr, faV_pa, nck_pa, heap_new, heap_old, heap_set, ↓reduceIte, Nat.reduceEqDiff, Nat.reduceLT, Nat.reduceAdd, Int.reduceLT, Int.reduceLE, decide_false, decide_true, dec_true, dec_false, true_and, and_true, true_imp_iff, Bool.not_true, Bool.not_false, Option.map_none, Int.reduceToNat, Int.toNat_zero, Int.toNat_one, lkV_false, lkV_true] <;> rfl
  clear hO hx1 hx0
  rintro k t U ⟨i, F, hk, hO, hFl, hF, hx, f3, f13, f14, f15⟩
  simp (disch := first | omega | assumption | (simp only [O1, World.size_alloc, World.size_setCell, World.size_drew]; first | done | omega)) only [O1, D2, ↓H0, S0, ↓S1, ↓S2, ↓S3, ↓S4, S5, S5b, S5c, ↓S6, S6b, M0, E0, ty, tl, te, tc, i64_wrap, u64_wrap, iaV_sl, iaV_arr, faV_pa, nck_pa, heap_new, heap_old, heap_set, ↓reduceIte, Nat.reduceEqDiff, Nat.reduceLT, Nat.reduceAdd, Int.reduceLT, Int.reduceLE, decide_false, decide_true, dec_true, dec_false, true_and, and_true, true_imp_iff, Bool.not_true, Bool.not_false, Option.map_none, Int.reduceToNat, Int.toNat_zero, Int.toNat_one, lkV_false, lkV_true, f3, f13, f14, f15]
  refine Br_if (fun h => ?_) (fun h' => ?_) <;> (try simp (disch := first | omega | assumption | (simp only [O1, World.size_alloc, World.size_setCell, World.size_drew]; first | done | omega)) only [O1, D2, ↓H0, S0, ↓S1, ↓S2, ↓S3, ↓S4, S5, S5b, S5c, ↓S6, S6b, M0, E0, ty, tl, te, tc, i64_wrap, u64_wrap, iaV_sl, iaV_arr, faV_pa, nck_pa, heap_new, heap_old, heap_set, ↓reduceIte, Nat.reduceEqDiff, Nat.reduceLT, Nat.reduceAdd, Int.reduceLT, Int.reduceLE, decide_false, decide_true, dec_true, dec_false, true_and, and_true, true_imp_iff, Bool.not_true, Bool.not_false, Option.map_none, Int.reduceToNat, Int.toNat_zero, Int.toNat_one, lkV_false, lkV_true, f3, f13, f14, f15])
  · have hi : i < g.prods.length := by omega
    obtain ⟨hl, r, hr, hR⟩ := hC i hi
    obtain ⟨D, d, rfl, hd, hD⟩ := hR
    have hl' := hx.rd hl
    have hr' := hx.rd hr
    have hAs := rd_isSome hl
    have hmem : g.prods[i] ∈ g.prods := List.getElem_mem _
    have hgD : g.prods.getD i (0, []) = g.prods[i] := by simp [List.getD_eq_getElem?_getD, List.getElem?_eq_getElem hi]
    generalize hp : g.prods[i] = p at *
    have hps := (hin p hmem).2
    have hlen := hside p hmem
    have hU1 := (Ext.rfl' U).al (.cells #[.int .i64 p.1, .slice D p.2.length d] 35)
    have hUs := hx.size
    simp (disch := first | omega | assumption | (simp only [O1, World.size_alloc, World.size_setCell, World.size_drew]; first | done | omega)) only [O1, D2, ↓H0, S0, ↓S1, ↓S2, ↓S3, ↓S4, S5, S5b, S5c, ↓S6, S6b, M0, E0, ty, tl, te, tc, i64_wrap, u64_wrap, iaV_sl, iaV_arr, faV_pa, nck_pa, heap_new, heap_old, heap_set, ↓reduceIte, Nat.reduceEqDiff, Nat.reduceLT, Nat.reduceAdd, Int.reduceLT, Int.reduceLE, decide_false, decide_true, dec_true, dec_false, true_and, and_true, true_imp_iff, Bool.not_true, Bool.not_false, Option.map_none, Int.reduceToNat, Int.toNat_zero, Int.toNat_one, lkV_false, lkV_true, f3, f13, f14, f15, hl', hr', ldA2, st35]
    refine ⟨fun k2 t V => ∃ (j : Nat) (F : List (List Int)), k2 + j = p.2.length ∧ RowsO IV w.heap.size 3 23 V G F ∧ F.length = g.names.length ∧ (∀ s : Nat, s < g.names.length → F[s]? = some (usesUp g.prods s i ++ List.replicate ((p.2.take j).count (s : Int)) (i : Int))) ∧ Ext w V ∧
      t 3 = .slice (some ⟨G, 0, none⟩) g.names.length g.names.length ∧ t 13 = .slice C g.prods.length c ∧ t 14 = .int .i64 g.prods.length ∧ t 15 = .int .i64 i ∧ t 4 = .int .i64 i ∧ t 21 = .slice D p.2.length d ∧ t 22 = .int .i64 p.2.length ∧ t 23 = .int .i64 j,
      ⟨p.2.length, 0, F, by omega, hO.ext hU1, hFl, fun s hs => by simpa using hF s hs, hx.tr hU1, ?_⟩, ?_⟩
    · simp (disch := first | omega | assumption | (simp only [O1, World.size_alloc, World.size_setCell, World.size_drew]; first | done | omega)) only [O1, D2, ↓H0, S0, ↓S1, ↓S2, ↓S3, ↓S4, S5, S5b, S5c, ↓S6, S6b, M0, E0, ty, tl, te, tc, i64_wrap, u64_wrap, iaV_sl, iaV_arr, faV_pa, nck_pa, heap_new, heap_old, heap_set, ↓reduceIte, Nat.reduceEqDiff, Nat.reduceLT, Nat.reduceAdd, Int.reduceLT, Int.reduceLE, decide_false, decide_true, dec_true, dec_false, true_and, and_true, true_imp_iff, Bool.not_true, Bool.not_false, Option.map_none, Int.reduceToNat, Int.toNat_zero, Int.toNat_one, lkV_false, lkV_true, f3, f13, f14, f15] <;> rfl
    clear hO hFl hF hU1 hl' hr' f3 f13 f14 f15
    rintro k2 t V ⟨j, F, hk2, hO, hFl, hF, hxV, f3, f13, f14, f15, f4, f21, f22, f23⟩
    simp (disch := first | omega | assumption | (simp only [O1, World.size_alloc, World.size_setCell, World.size_drew]; first | done | omega)) only [O1, D2, ↓H0, S0, ↓S1, ↓S2, ↓S3, ↓S4, S5, S5b, S5c, ↓S6, S6b, M0, E0, ty, tl, te, tc, i64_wrap, u64_wrap, iaV_sl, iaV_arr, faV_pa, nck_pa, heap_new, heap_old, heap_set, ↓reduceIte, Nat.reduceEqDiff, Nat.reduceLT, Nat.reduceAdd, Int.reduceLT, Int.reduceLE, decide_false, decide_true, dec_true, dec_false, true_and, and_true, true_imp_iff, Bool.not_true, Bool.not_false, Option.map_none, Int.reduceToNat, Int.toNat_zero, Int.toNat_one, lkV_false, lkV_true, f3, f13, f14, f15, f4, f21, f22, f23]
    refine Br_if (fun h2 => ?_) (fun h2' => ?_) <;> (try simp (disch := first | omega | assumption | (simp only [O1, World.size_alloc, World.size_setCell, World.size_drew]; first | done | omega)) only [O1, D2, ↓H0, S0, ↓S1, ↓S2, ↓S3, ↓S4, S5, S5b, S5c, ↓S6, S6b, M0, E0, ty, tl, te, tc, i64_wrap, u64_wrap, iaV_sl, iaV_arr, faV_pa, nck_pa, heap_new, heap_old, heap_set, ↓reduceIte, Nat.reduceEqDiff, Nat.reduceLT, Nat.reduceAdd, Int.reduceLT, Int.reduceLE, decide_false, decide_true, dec_true, dec_false, true_and, and_true, true_imp_iff, Bool.not_true, Bool.not_false, Option.map_none, Int.reduceToNat, Int.toNat_zero, Int.toNat_one, lkV_false, lkV_true, f3, f13, f14, f15, f4, f21, f22, f23])
    · have hj : j < p.2.length := by omega
      have hs := hxV.rd (hD j hj)
      have hDs := rd_isSome hs
      have htk : p.2.take (j + 1) = p.2.take j ++ [p.2[j]] := List.take_succ_eq_append_getElem hj
      have hxm : p.2[j] ∈ p.2 := List.getElem_mem _
      generalize hse : p.2[j] = x at *
      have hxn := hps x hxm
      simp (disch := first | omega | assumption | (simp only [O1, World.size_alloc, World.size_setCell, World.size_drew]; first | done | omega)) only [O1, D2, ↓H0, S0, ↓S1, ↓S2, ↓S3, ↓S4, S5, S5b, S5c, ↓S6, S6b, M0, E0, ty, tl, te, tc, i64_wrap, u64_wrap, iaV_sl, iaV_arr, faV_pa, nck_pa, heap_new, heap_old, heap_set, ↓reduceIte, Nat.reduceEqDiff, Nat.reduceLT, Nat.reduceAdd, Int.reduceLT, Int.reduceLE, decide_false, decide_true, dec_true, dec_false, true_and, and_true, true_imp_iff, Bool.not_true, Bool.not_false, Option.map_none, Int.reduceToNat, Int.toNat_zero, Int.toNat_one, lkV_false, lkV_true, f3, f13, f14, f15, f4, f21, f22, f23, hs]
      refine Br_if (fun h3 => ?_) (fun h3 => ?_) <;> (try simp (disch := first | omega | assumption | (simp only [O1, World.size_alloc, World.size_setCell, World.size_drew]; first | done | omega)) only [O1, D2, ↓H0, S0, ↓S1, ↓S2, ↓S3, ↓S4, S5, S5b, S5c, ↓S6, S6b, M0, E0, ty, tl, te, tc, i64_wrap, u64_wrap, iaV_sl, iaV_arr, faV_pa, nck_pa, heap_new, heap_old, heap_set, ↓reduceIte, Nat.reduceEqDiff, Nat.reduceLT, Nat.reduceAdd, Int.reduceLT, Int.reduceLE, decide_false, decide_true, dec_true, dec_false, true_and, and_true, true_imp_iff, Bool.not_true, Bool.not_false, Option.map_none, Int.reduceToNat, Int.toNat_zero, Int.toNat_one, lkV_false, lkV_true, f3, f13, f14, f15, f4, f21, f22, f23])
      · have hxF : x.toNat < F.length := by omega
        have hFx := hF x.toNat (by omega)
        rw [List.getElem?_eq_getElem hxF] at hFx
        simp only [Option.some.injEq] at hFx
        obtain ⟨u, hu, hRu, hug, hput⟩ := hO.at (by decide) x.toNat hxF
        rw [rd_own, Nat.zero_add] at hu
        have hVs := hxV.size
        have hlenF : F[x.toNat].length < 1000000000000 := by
          rw [hFx, List.length_append, List.length_replicate]
          have h1 := usesUp_len (s := ((x.toNat : Nat) : Int)) (m := i) hside
          have h2 : (p.2.take j).count ((x.toNat : Nat) : Int) ≤ 16 := Nat.le_trans List.count_le_length (by rw [List.length_take]; omega)
          omega
        simp (disch := first | omega | assumption | (simp only [O1, World.size_alloc, World.size_setCell, World.size_drew]; first | done | omega)) only [O1, D2, ↓H0, S0, ↓S1, ↓S2, ↓S3, ↓S4, S5, S5b, S5c, ↓S6, S6b, M0, E0, ty, tl, te, tc, i64_wrap, u64_wrap, iaV_sl, iaV_arr, faV_pa, nck_pa, heap_new, heap_old, heap_set, ↓reduceIte, Nat.reduceEqDiff, Nat.reduceLT, Nat.reduceAdd, Int.reduceLT, Int.reduceLE, decide_false, decide_true, dec_true, dec_false, true_and, and_true, true_imp_iff, Bool.not_true, Bool.not_false, Option.map_none, Int.reduceToNat, Int.toNat_zero, Int.toNat_one, lkV_false, lkV_true, f3, f13, f14, f15, f4, f21, f22, f23, hu, bsl1 sl23]
        refine RunA_row (enc := IV) (x := (i : Int)) sl23 hRu rfl hlenF (by omega) (by omega) ?_
        intro v' Y hR' hg2 hsz hv
        obtain ⟨cs, hY, hcs, hO2, hone⟩ := hput v' Y _ hR' hg2 hv
        have hst := sto_own (P := Try.prog) (T := 23) (w := Y) (g := G) (o := 0) (k := x.toNat) (x := v') (by simp only [ty]) hY (by simpa using hcs) hone
        rw [Nat.zero_add] at hst
        have hGw : w.heap.size ≤ G := by omega
        have hxY : Ext w Y := hxV.grown' hg2 (fun k hk => (hRu.lt k hk).1)
        simp (disch := first | omega | assumption | (simp only [O1, World.size_alloc, World.size_setCell, World.size_drew]; first | done | omega)) only [O1, D2, ↓H0, S0, ↓S1, ↓S2, ↓S3, ↓S4, S5, S5b, S5c, ↓S6, S6b, M0, E0, ty, tl, te, tc, i64_wrap, u64_wrap, iaV_sl, iaV_arr, faV_pa, nck_pa, heap_new, heap_old, heap_set, ↓reduceIte, Nat.reduceEqDiff, Nat.reduceLT, Nat.reduceAdd, Int.reduceLT, Int.reduceLE, decide_false, decide_true, dec_true, dec_false, true_and, and_true, true_imp_iff, Bool.not_true, Bool.not_false, Option.map_none, Int.reduceToNat, Int.toNat_zero, Int.toNat_one, lkV_false, lkV_true, f3, f13, f14, f15, f4, f21, f22, f23, hst]
        refine ⟨k2 - 1, by omega, j + 1, _, by omega, hO2, by simpa using hFl, fun s hs => ?_, hxY.st hGw _, rfl⟩
        rw [List.getElem?_set, htk, List.count_append]
        by_cases e : x.toNat = s
        · subst e
          have e2 : ((x.toNat : Nat) : Int) = x := by omega
          rw [if_pos rfl, if_pos hxF, hFx, e2]
          simp [List.replicate_succ']
        · have e2 : ¬ x = (s : Int) := by omega
          rw [if_neg e, hF s hs]
          simp [List.count_cons, e2]
      · refine ⟨k2 - 1, by omega, j + 1, F, by omega, hO, hFl, fun s hs => ?_, hxV, rfl⟩
        have e2 : ¬ x = (s : Int) := by omega
        rw [hF s hs, htk, List.count_append]
        simp [List.count_cons, e2]
    · rw [List.take_of_length_le (by omega)] at hF
      refine ⟨k - 1, by omega, i + 1, F, by omega, hO, hFl, fun s hs => ?_, hxV, rfl⟩
      rw [hF s hs, usesUp, hgD]
  · have : i = g.prods.length := by omega
    subst this
    have hFe : F = (List.range g.names.length).map fun s : Nat => usesUp g.prods s g.prods.length := by
      apply List.ext_getElem?
      intro s
      by_cases hs : s < g.names.length
      · rw [hF s hs]; simp [hs]
      · rw [List.getElem?_eq_none (by omega), List.getElem?_eq_none (by simp; omega)]
    rw [hFe] at hO
    exact ⟨⟨G, rfl, by omega, hO⟩, hx⟩
/-- What stands while a set is closed. -/
structure CloW (w U : World) (bx : Array Value) (n B0 I bi Mi bw base : Nat) (l : List Bool) (mis : List Int) (wv : Value) (work : List Int) : Prop where
  ext : Ext w U
  box : U.heap[B0]? = some (.cells bx 41 (0, 0))
  inn : U.heap[bi]? = some (.cells #[.slice (some ⟨I, 0, none⟩) n n] 53 (0, 0))
  bits : Own Value.bool 4 U I l
  nums : Own IV 3 U Mi mis
  wrk : U.heap[bw]? = some (.cells #[wv] 23 (0, 0))
  row : Row IV base 3 U wv work
  lt : Mi < base
  le : base ≤ U.heap.size
  iw : w.heap.size ≤ I
  mw : w.heap.size ≤ Mi
  ww : w.heap.size ≤ bw
  im : I ≠ Mi
theorem CloW.ext' {w U V : World} {bx : Array Value} {n B0 I bi Mi bw base : Nat} {l : List Bool} {mis : List Int} {wv : Value} {work : List Int} (h : CloW w U bx n B0 I bi Mi bw base l mis wv work) (hx : Ext U V) : CloW w V bx n B0 I bi Mi bw base l mis wv work :=
  ⟨h.ext.tr hx, hx.hp h.box, hx.hp h.inn, h.bits.ext hx, h.nums.ext hx, hx.hp h.wrk, h.row.ext hx, h.lt, Nat.le_trans h.le hx.size, h.iw, h.mw, h.ww, h.im⟩
/-- A number is written. -/
theorem CloW.num {w U : World} {bx : Array Value} {n B0 I bi Mi bw base : Nat} {l : List Bool} {mis : List Int} {wv : Value} {work : List Int} (h : CloW w U bx n B0 I bi Mi bw base l mis wv work) (i : Nat) (x : Int) :
    CloW w (U.setCell ⟨Mi, i, none⟩ (.int .i64 x)) bx n B0 I bi Mi bw base l (mis.set i x) wv work := by
  have hM := h.nums
  have e1 : B0 ≠ Mi := hM.ne h.box (by decide)
  have e2 : bi ≠ Mi := hM.ne h.inn (by decide)
  have e3 : bw ≠ Mi := hM.ne h.wrk (by decide)
  exact ⟨h.ext.st h.mw _, (heap_set _ e1).trans h.box, (heap_set _ e2).trans h.inn, h.bits.hp (heap_set _ h.im), hM.set i x, (heap_set _ e3).trans h.wrk, h.row.kept (row := some Mi) set_grown (.inr (h.row.ne_lt h.lt)), h.lt, by simpa using h.le, h.iw, h.mw, h.ww, h.im⟩
/-- A nonterminal is brought in. -/
theorem CloW.call {w U : World} {bx : Array Value} {n B0 I bi Mi bw base : Nat} {l : List Bool} {mis : List Int} {wv : Value} {work : List Int} (h : CloW w U bx n B0 I bi Mi bw base l mis wv work) (hl : l.length = n) (hn : work.length < 1000000000) {a : Int} (ha0 : 0 ≤ a) (ha : a < n) :
    Ok Try.prog 134 (#[] ++ #[.int .i64 a] ++ #[pa (some ⟨bi, 0, none⟩) 0, pa (some ⟨bw, 0, none⟩) 0]) U fun v V =>
      (l[a.toNat]? = some true ∧ V = U) ∨ (l[a.toNat]? = some false ∧ ∃ wv', CloW w V bx n B0 I bi Mi bw base (l.set a.toNat true) mis wv' (work ++ [a]) ∧ Chg (fun k => k = I ∨ k = bw ∨ wv.ownBlock = some k) U V ∧ (wv'.ownBlock = wv.ownBlock ∨ ∃ b, wv'.ownBlock = some b ∧ U.heap.size ≤ b)) := by
  refine (close1_ok a n bi bw I base l wv work U h.inn h.bits hl h.wrk h.row h.le hn ha0 ha).then ?_
  rintro v V (⟨h1, h2⟩ | ⟨h1, wv', hI, hw, hR, hc, hv⟩)
  · exact .inl ⟨h1, h2⟩
  · refine .inr ⟨h1, wv', ⟨h.ext.chg hc ?_, hc.hp h.box ?_, hc.hp h.inn ?_, hI, h.nums.hp (hc.block _ h.nums.lt ?_), hw, hR, h.lt, Nat.le_trans h.le hc.size, h.iw, h.mw, h.ww, h.im⟩, hc, hv⟩
    · rintro x (rfl | rfl | hx)
      · exact h.iw
      · exact h.ww
      · have := h.row.lt x hx; have := h.lt; have := h.mw; omega
    · rintro (e | e | e)
      · exact h.bits.ne h.box (by decide) e
      · have h1 := h.box; have h2 := h.wrk; rw [e, h2] at h1; simp at h1
      · exact h.row.ne h.box (by decide) e
    · rintro (e | e | e)
      · exact h.bits.ne h.inn (by decide) e
      · have h1 := h.inn; have h2 := h.wrk; rw [e, h2] at h1; simp at h1
      · exact h.row.ne h.inn (by decide) e
    · rintro (e | e | e)
      · exact h.im e.symm
      · exact h.nums.ne h.wrk (by decide) e.symm
      · exact h.row.ne_lt h.lt e
/-- The last of the work is taken off. -/
theorem CloW.pop {w U : World} {bx : Array Value} {n B0 I bi Mi bw base : Nat} {l : List Bool} {mis : List Int} {wv : Value} {work : List Int} {s : Int} (h : CloW w U bx n B0 I bi Mi bw base l mis wv (work ++ [s])) :
    ∃ v', slV Try.prog 23 wv none (some (.int .i64 work.length)) none = some v' ∧ v'.ownBlock = wv.ownBlock ∧ v'.oneCell' = true ∧ CloW w (U.setCell ⟨bw, 0, none⟩ v') bx n B0 I bi Mi bw base l mis v' work := by
  obtain ⟨v', h1, h2, h3⟩ := h.row.pop sl23 (k := .i64)
  have hw := h.wrk
  have e1 : B0 ≠ bw := fun e => by have h1 := h.box; rw [e, hw] at h1; simp at h1
  have e2 : bi ≠ bw := fun e => by have h1 := h.inn; rw [e, hw] at h1; simp at h1
  have e3 : bw ≠ Mi := h.nums.ne hw (by decide)
  have e4 : bw ≠ I := h.bits.ne hw (by decide)
  refine ⟨v', h1, h3, h2.one, h.ext.st h.ww _, (heap_set _ e1).trans h.box, (heap_set _ e2).trans h.inn, h.bits.hp (heap_set _ e4.symm), h.nums.hp (heap_set _ e3.symm), by rw [heap_set_same, hw]; rfl, h2.kept (row := some bw) set_grown (.inr (h2.ne hw (by decide))), h.lt, by simpa using h.le, h.iw, h.mw, h.ww, h.im⟩
set_option maxHeartbeats 4000000 in
theorem close_ok (v : Value) (g : PG) (T : Bool) (w : World) (hg : RepPG w v g) (hs : SmallP g) :
    Ok Try.prog 91 #[v, .bool T] w fun v w' => ((¬ SoundP g ∧ v = .slice none 0 0) ∨ (SoundP g ∧ ∃ l, Bools w' v l ∧ Tells g.names.length (Gen T g.prods) l)) ∧ Ext w w' := by
  have hg0 := hg
  obtain ⟨nv, tv, pv, rfl, hN, hT, hp⟩ := hg
  obtain ⟨A, a, rfl, ha, hA⟩ := hN
  obtain ⟨C, c, rfl, hc, hC⟩ := hp
  (refine Ok.enter Try.func91 rfl (by kernel_rfl) (Nat.le_of_ble_eq_true rfl) ?_; simp only [Try.f91, S7])
  simp (disch := first | omega | assumption | (simp only [O1, World.size_alloc, World.size_setCell, World.size_drew]; first | done | omega)) only [O1, D2, ↓H0, S0, ↓S1, ↓S2, ↓S3, ↓S4, S5, S5b, S5c, ↓S6, S6b, M0, E0, ty, tl, te, tc, i64_wrap, u64_wrap, iaV_sl, iaV_arr, faV_pa, nck_pa, heap_new, heap_old, heap_set, ↓reduceIte, Nat.reduceEqDiff, Nat.reduceLT, Nat.reduceAdd, Int.reduceLT, Int.reduceLE, decide_false, decide_true, dec_true, dec_false, true_and, and_true, true_imp_iff, Bool.not_true, Bool.not_false, Option.map_none, Int.reduceToNat, Int.toNat_zero, Int.toNat_one, lkV_false, lkV_true]
  obtain ⟨bx, hbx⟩ : ∃ bx, bx = #[Value.int .i64 g.start, .int .i64 g.rules, .slice A g.names.length a, tv, .slice C g.prods.length c] := ⟨_, rfl⟩
  have hx0 := (Ext.rfl' w).al (.cells bx 41)
  have hb0 := heap_new (w := w) (.cells bx 41) rfl
  rw [hbx] at hx0 hb0
  simp (disch := first | omega | assumption | (simp only [O1, World.size_alloc, World.size_setCell, World.size_drew]; first | done | omega)) only [O1, D2, ↓H0, S0, ↓S1, ↓S2, ↓S3, ↓S4, S5, S5b, S5c, ↓S6, S6b, M0, E0, ty, tl, te, tc, i64_wrap, u64_wrap, iaV_sl, iaV_arr, faV_pa, nck_pa, heap_new, heap_old, heap_set, ↓reduceIte, Nat.reduceEqDiff, Nat.reduceLT, Nat.reduceAdd, Int.reduceLT, Int.reduceLE, decide_false, decide_true, dec_true, dec_false, true_and, and_true, true_imp_iff, Bool.not_true, Bool.not_false, Option.map_none, Int.reduceToNat, Int.toNat_zero, Int.toNat_one, lkV_false, lkV_true, ldA5]
  refine (sound_ok _ g _ (hg0.ext hx0) hs).then ?_; rintro _ W ⟨⟨b, rfl, hb⟩, hx1⟩
  have hxW := hx0.tr hx1
  have hbW := hx1.hp hb0
  cases b with
  | false =>
    simp (disch := first | omega | assumption | (simp only [O1, World.size_alloc, World.size_setCell, World.size_drew]; first | done | omega)) only [O1, D2, ↓H0, S0, ↓S1, ↓S2, ↓S3, ↓S4, S5, S5b, S5c, ↓S6, S6b, M0, E0, ty, tl, te, tc, i64_wrap, u64_wrap, iaV_sl, iaV_arr, faV_pa, nck_pa, heap_new, heap_old, heap_set, ↓reduceIte, Nat.reduceEqDiff, Nat.reduceLT, Nat.reduceAdd, Int.reduceLT, Int.reduceLE, decide_false, decide_true, dec_true, dec_false, true_and, and_true, true_imp_iff, Bool.not_true, Bool.not_false, Option.map_none, Int.reduceToNat, Int.toNat_zero, Int.toNat_one, lkV_false, lkV_true]
    exact ⟨.inl fun h => by have := hb.2 h; simp at this, hxW⟩
  | true =>
    have hS := hb.1 rfl
    have hin := hS.inR
    have hside := hS.sides
    have hn1 := hS.1.2.1
    have hn2 := hS.2.1.2.2.1
    have hx0s : w.heap.size < W.heap.size := lt_heap hbW
    simp (disch := first | omega | assumption | (simp only [O1, World.size_alloc, World.size_setCell, World.size_drew]; first | done | omega)) only [O1, D2, ↓H0, S0, ↓S1, ↓S2, ↓S3, ↓S4, S5, S5b, S5c, ↓S6, S6b, M0, E0, ty, tl, te, tc, i64_wrap, u64_wrap, iaV_sl, iaV_arr, faV_pa, nck_pa, heap_new, heap_old, heap_set, ↓reduceIte, Nat.reduceEqDiff, Nat.reduceLT, Nat.reduceAdd, Int.reduceLT, Int.reduceLE, decide_false, decide_true, dec_true, dec_false, true_and, and_true, true_imp_iff, Bool.not_true, Bool.not_false, Option.map_none, Int.reduceToNat, Int.toNat_zero, Int.toNat_one, lkV_false, lkV_true, hbW]
    refine RunM_own (enc := Value.bool) (z := false) sl53 rfl (by omega) (by omega) ?_
    intro W1 hs1 hx2 hI
    have hbW1 := hx2.hp hbW
    have hs53 : szT Try.prog 53 = some 1 := by simp only [ty]
    simp (disch := first | omega | assumption | (simp only [O1, World.size_alloc, World.size_setCell, World.size_drew]; first | done | omega)) only [O1, D2, ↓H0, S0, ↓S1, ↓S2, ↓S3, ↓S4, S5, S5b, S5c, ↓S6, S6b, M0, E0, ty, tl, te, tc, i64_wrap, u64_wrap, iaV_sl, iaV_arr, faV_pa, nck_pa, heap_new, heap_old, heap_set, ↓reduceIte, Nat.reduceEqDiff, Nat.reduceLT, Nat.reduceAdd, Int.reduceLT, Int.reduceLE, decide_false, decide_true, dec_true, dec_false, true_and, and_true, true_imp_iff, Bool.not_true, Bool.not_false, Option.map_none, Int.reduceToNat, Int.toNat_zero, Int.toNat_one, lkV_false, lkV_true, sto1 hs53, hbW1, sl]
    refine RunM_own (enc := IV) (z := 0) sl23 rfl (by omega) (by omega) ?_
    intro W2 hs2 hx3 hM
    have hi2 := hx3.hp (heap_new (w := W1) (.cells #[Value.slice (some ⟨W.heap.size, 0, none⟩) g.names.length g.names.length] 53) rfl)
    have hx12 := ((Ext.rfl' W1).al (.cells #[Value.slice (some ⟨W.heap.size, 0, none⟩) g.names.length g.names.length] 53)).tr hx3
    have hbW2 := hx12.hp hbW1
    simp only [World.size_alloc] at hs2 hM ⊢
    simp (disch := first | omega | assumption | (simp only [O1, World.size_alloc, World.size_setCell, World.size_drew]; first | done | omega)) only [O1, D2, ↓H0, S0, ↓S1, ↓S2, ↓S3, ↓S4, S5, S5b, S5c, ↓S6, S6b, M0, E0, ty, tl, te, tc, i64_wrap, u64_wrap, iaV_sl, iaV_arr, faV_pa, nck_pa, heap_new, heap_old, heap_set, ↓reduceIte, Nat.reduceEqDiff, Nat.reduceLT, Nat.reduceAdd, Int.reduceLT, Int.reduceLE, decide_false, decide_true, dec_true, dec_false, true_and, and_true, true_imp_iff, Bool.not_true, Bool.not_false, Option.map_none, Int.reduceToNat, Int.toNat_zero, Int.toNat_one, lkV_false, lkV_true, hbW2, sl]
    have hws : w.heap.size < W.heap.size := hx0s
    have hW0 : CloW w (W2.alloc (.cells #[.slice none 0 0] 23)) bx g.names.length w.heap.size W.heap.size W1.heap.size (W1.heap.size + 1) W2.heap.size W2.heap.size (List.replicate g.names.length false) (List.replicate g.prods.length 0) (.slice none 0 0) [] := by
      have hxn := (Ext.rfl' W2).al (.cells #[.slice none 0 0] 23)
      refine ⟨((hxW.tr hx2).tr hx12).tr hxn, hbx ▸ hxn.hp hbW2, hxn.hp hi2, (hI.ext hx12).ext hxn, hM.ext hxn, heap_new _ rfl, Row.nil _, by omega, by simp, by omega, by omega, by omega, by omega⟩
    generalize W.heap.size = I at hW0 ⊢
    generalize W1.heap.size + 1 = Mi at hW0 ⊢
    generalize W1.heap.size = bi at hW0 ⊢
    generalize W2.heap.size = bw at hW0 ⊢
    generalize hB0 : w.heap.size = B0 at hW0 ⊢
    generalize W2.alloc (.cells #[.slice none 0 0] 23) = U0 at hW0 ⊢
    clear hx12 hbW2 hi2 hM hx3 hs2 hbW1 hx2 hI hs1 hx0s hws hxW hbW hx1 hx0 hb0
    have hD0 : ∀ i, (h : i < g.prods.length) → g.prods.getD i (0, []) = g.prods[i] := fun i h => by simp [List.getD_eq_getElem?_getD, List.getElem?_eq_getElem h]
    refine ⟨fun k t U => ∃ (i : Nat) (l : List Bool) (mis : List Int) (wv : Value) (work : List Int), k + i = g.prods.length ∧ CloW w U bx g.names.length B0 I bi Mi bw bw l mis wv work ∧
      CloI g.names.length T g.prods (fun _ => false) l work (fun i => miss T (fun _ => false) (g.prods.getD i (0, [])).2) i ∧ mis.length = g.prods.length ∧ (∀ i' : Nat, i' < g.prods.length → mis[i']? = some (if i' < i then ((miss T (fun _ => false) (g.prods.getD i' (0, [])).2 : Nat) : Int) else 0)) ∧
      t 1 = .bool T ∧ t 2 = pa (some ⟨B0, 0, none⟩) 0 ∧ t 5 = pa (some ⟨bi, 0, none⟩) 0 ∧ t 6 = .slice (some ⟨Mi, 0, none⟩) g.prods.length g.prods.length ∧ t 7 = pa (some ⟨bw, 0, none⟩) 0 ∧ t 8 = .func (.func 134) #[] #[pa (some ⟨bi, 0, none⟩) 0, pa (some ⟨bw, 0, none⟩) 0] ∧
      t 30 = .slice C g.prods.length c ∧ t 31 = .int .i64 g.prods.length ∧ t 32 = .int .i64 i, ⟨g.prods.length, 0, _, _, _, _, by omega, hW0, CloI.start _ _ _ _, by simp, fun i' hi' => by simp [List.getElem?_replicate, hi'], ?_⟩, ?_⟩
    · simp (disch := first | omega | assumption | (simp only [O1, World.size_alloc, World.size_setCell, World.size_drew]; first | done | omega)) only [O1, D2, ↓H0, S0, ↓S1, ↓S2, ↓S3, ↓S4, S5, S5b, S5c, ↓S6, S6b, M0, E0, ty, tl, te, tc, i64_wrap, u64_wrap, iaV_sl, iaV_arr, faV_pa, nck_pa, heap_new, heap_old, heap_set, ↓reduceIte, Nat.reduceEqDiff, Nat.reduceLT, Nat.reduceAdd, Int.reduceLT, Int.reduceLE, decide_false, decide_true, dec_true, dec_false, true_and, and_true, true_imp_iff, Bool.not_true, Bool.not_false, Option.map_none, Int.reduceToNat, Int.toNat_zero, Int.toNat_one, lkV_false, lkV_true] <;> rfl
    clear hW0
    rintro k t U ⟨i, l, mis, wv, work, hk, hW, hI, hml, hm, f1, f2, f5, f6, f7, f8, f30, f31, f32⟩
    simp (disch := first | omega | assumption | (simp only [O1, World.size_alloc, World.size_setCell, World.size_drew]; first | done | omega)) only [O1, D2, ↓H0, S0, ↓S1, ↓S2, ↓S3, ↓S4, S5, S5b, S5c, ↓S6, S6b, M0, E0, ty, tl, te, tc, i64_wrap, u64_wrap, iaV_sl, iaV_arr, faV_pa, nck_pa, heap_new, heap_old, heap_set, ↓reduceIte, Nat.reduceEqDiff, Nat.reduceLT, Nat.reduceAdd, Int.reduceLT, Int.reduceLE, decide_false, decide_true, dec_true, dec_false, true_and, and_true, true_imp_iff, Bool.not_true, Bool.not_false, Option.map_none, Int.reduceToNat, Int.toNat_zero, Int.toNat_one, lkV_false, lkV_true, f1, f2, f5, f6, f7, f8, f30, f31, f32]
    refine Br_if (fun h => ?_) (fun h' => ?_) <;> (try simp (disch := first | omega | assumption | (simp only [O1, World.size_alloc, World.size_setCell, World.size_drew]; first | done | omega)) only [O1, D2, ↓H0, S0, ↓S1, ↓S2, ↓S3, ↓S4, S5, S5b, S5c, ↓S6, S6b, M0, E0, ty, tl, te, tc, i64_wrap, u64_wrap, iaV_sl, iaV_arr, faV_pa, nck_pa, heap_new, heap_old, heap_set, ↓reduceIte, Nat.reduceEqDiff, Nat.reduceLT, Nat.reduceAdd, Int.reduceLT, Int.reduceLE, decide_false, decide_true, dec_true, dec_false, true_and, and_true, true_imp_iff, Bool.not_true, Bool.not_false, Option.map_none, Int.reduceToNat, Int.toNat_zero, Int.toNat_one, lkV_false, lkV_true, f1, f2, f5, f6, f7, f8, f30, f31, f32])
    · have hi : i < g.prods.length := by omega
      have hx := hW.ext
      obtain ⟨hl, r, hr, hR⟩ := hC i hi
      obtain ⟨D, d, rfl, hd, hD⟩ := hR
      have hl' := hx.rd hl
      have hr' := hx.rd hr
      have hAs := rd_isSome hl
      have hmem : g.prods[i] ∈ g.prods := List.getElem_mem _
      have hgD := hD0 i hi
      generalize hp : g.prods[i] = p at *
      obtain ⟨⟨hp0, hp1⟩, hps⟩ := hin p hmem
      have hlen := hside p hmem
      have hmi := hm i hi
      rw [if_neg (by omega)] at hmi
      have hU1 := (Ext.rfl' U).al (.cells #[.int .i64 p.1, .slice D p.2.length d] 35)
      have hW1 := hW.ext' hU1
      simp (disch := first | omega | assumption | (simp only [O1, World.size_alloc, World.size_setCell, World.size_drew]; first | done | omega)) only [O1, D2, ↓H0, S0, ↓S1, ↓S2, ↓S3, ↓S4, S5, S5b, S5c, ↓S6, S6b, M0, E0, ty, tl, te, tc, i64_wrap, u64_wrap, iaV_sl, iaV_arr, faV_pa, nck_pa, heap_new, heap_old, heap_set, ↓reduceIte, Nat.reduceEqDiff, Nat.reduceLT, Nat.reduceAdd, Int.reduceLT, Int.reduceLE, decide_false, decide_true, dec_true, dec_false, true_and, and_true, true_imp_iff, Bool.not_true, Bool.not_false, Option.map_none, Int.reduceToNat, Int.toNat_zero, Int.toNat_one, lkV_false, lkV_true, f1, f2, f5, f6, f7, f8, f30, f31, f32, hl', hr', ldA2, st35]
      generalize hq : U.heap.size = q at *
      have hqb : (U.alloc (.cells #[.int .i64 p.1, .slice D p.2.length d] 35)).heap[q]? = some (.cells #[.int .i64 p.1, .slice D p.2.length d] 35 (0, 0)) := heap_new _ hq.symm
      refine ⟨fun k2 t V => ∃ j : Nat, k2 + j = p.2.length ∧ CloW w V bx g.names.length B0 I bi Mi bw bw l (mis.set i ((miss T (fun _ => false) (p.2.take j) : Nat) : Int)) wv work ∧ V.heap[q]? = some (.cells #[.int .i64 p.1, .slice D p.2.length d] 35 (0, 0)) ∧
        t 1 = .bool T ∧ t 2 = pa (some ⟨B0, 0, none⟩) 0 ∧ t 5 = pa (some ⟨bi, 0, none⟩) 0 ∧ t 6 = .slice (some ⟨Mi, 0, none⟩) g.prods.length g.prods.length ∧ t 7 = pa (some ⟨bw, 0, none⟩) 0 ∧ t 8 = .func (.func 134) #[] #[pa (some ⟨bi, 0, none⟩) 0, pa (some ⟨bw, 0, none⟩) 0] ∧
        t 30 = .slice C g.prods.length c ∧ t 31 = .int .i64 g.prods.length ∧ t 32 = .int .i64 i ∧ t 9 = .int .i64 i ∧ t 10 = pa (some ⟨q, 0, none⟩) 0 ∧ t 38 = .slice D p.2.length d ∧ t 39 = .int .i64 p.2.length ∧ t 40 = .int .i64 j,
        ⟨p.2.length, 0, by omega, ?_, hqb, ?_⟩, ?_⟩
      · have : mis.set i ((miss T (fun _ => false) (p.2.take 0) : Nat) : Int) = mis := by
          show mis.set i 0 = mis
          apply List.ext_getElem?
          intro i'
          rw [List.getElem?_set]
          split
          · rename_i e; subst e; rw [if_pos (by omega), hmi]
          · rfl
        rw [this]; exact hW1
      · simp (disch := first | omega | assumption | (simp only [O1, World.size_alloc, World.size_setCell, World.size_drew]; first | done | omega)) only [O1, D2, ↓H0, S0, ↓S1, ↓S2, ↓S3, ↓S4, S5, S5b, S5c, ↓S6, S6b, M0, E0, ty, tl, te, tc, i64_wrap, u64_wrap, iaV_sl, iaV_arr, faV_pa, nck_pa, heap_new, heap_old, heap_set, ↓reduceIte, Nat.reduceEqDiff, Nat.reduceLT, Nat.reduceAdd, Int.reduceLT, Int.reduceLE, decide_false, decide_true, dec_true, dec_false, true_and, and_true, true_imp_iff, Bool.not_true, Bool.not_false, Option.map_none, Int.reduceToNat, Int.toNat_zero, Int.toNat_one, lkV_false, lkV_true, f1, f2, f5, f6, f7, f8, f30, f31, f32] <;> rfl
      clear hW1 hqb hU1 hl' hr' hx hq f1 f2 f5 f6 f7 f8 f30 f31 f32
      have hil : i < mis.length := by omega
      rintro k2 t V ⟨j, hk2, hWV, hqb, f1, f2, f5, f6, f7, f8, f30, f31, f32, f9, f10, f38, f39, f40⟩
      have hxV := hWV.ext
      have hgi : (mis.set i ((miss T (fun _ => false) (p.2.take j) : Nat) : Int))[i]'(by simpa using hil) = ((miss T (fun _ => false) (p.2.take j) : Nat) : Int) := by simp
      have hrd := hWV.nums.rd i (by simpa using hil)
      have hce := hWV.nums.cell i (by simpa using hil)
      rw [hgi] at hrd hce
      have hmb : miss T (fun _ => false) (p.2.take j) ≤ 16 := Nat.le_trans (List.countP_le_length) (by rw [List.length_take]; omega)
      have hil2 : (i : Int) < (g.prods.length : Int) := by omega
      simp (disch := first | omega | assumption | (simp only [O1, World.size_alloc, World.size_setCell, World.size_drew]; first | done | omega)) only [O1, D2, ↓H0, S0, ↓S1, ↓S2, ↓S3, ↓S4, S5, S5b, S5c, ↓S6, S6b, M0, E0, ty, tl, te, tc, i64_wrap, u64_wrap, iaV_sl, iaV_arr, faV_pa, nck_pa, heap_new, heap_old, heap_set, ↓reduceIte, Nat.reduceEqDiff, Nat.reduceLT, Nat.reduceAdd, Int.reduceLT, Int.reduceLE, decide_false, decide_true, dec_true, dec_false, true_and, and_true, true_imp_iff, Bool.not_true, Bool.not_false, Option.map_none, Int.reduceToNat, Int.toNat_zero, Int.toNat_one, lkV_false, lkV_true, f1, f2, f5, f6, f7, f8, f30, f31, f32, f9, f10, f38, f39, f40]
      refine Br_if (fun h2 => ?_) (fun h2' => ?_) <;> (try simp (disch := first | omega | assumption | (simp only [O1, World.size_alloc, World.size_setCell, World.size_drew]; first | done | omega)) only [O1, D2, ↓H0, S0, ↓S1, ↓S2, ↓S3, ↓S4, S5, S5b, S5c, ↓S6, S6b, M0, E0, ty, tl, te, tc, i64_wrap, u64_wrap, iaV_sl, iaV_arr, faV_pa, nck_pa, heap_new, heap_old, heap_set, ↓reduceIte, Nat.reduceEqDiff, Nat.reduceLT, Nat.reduceAdd, Int.reduceLT, Int.reduceLE, decide_false, decide_true, dec_true, dec_false, true_and, and_true, true_imp_iff, Bool.not_true, Bool.not_false, Option.map_none, Int.reduceToNat, Int.toNat_zero, Int.toNat_one, lkV_false, lkV_true, f1, f2, f5, f6, f7, f8, f30, f31, f32, f9, f10, f38, f39, f40])
      · have hj : j < p.2.length := by omega
        have hs := hxV.rd (hD j hj)
        have hDs := rd_isSome hs
        have htk : p.2.take (j + 1) = p.2.take j ++ [p.2[j]] := List.take_succ_eq_append_getElem hj
        have hms : miss T (fun _ => false) (p.2.take (j + 1)) = miss T (fun _ => false) (p.2.take j) + (if 0 ≤ p.2[j] then 1 else if T = true then 0 else 1) := by
          rw [htk]; unfold miss; rw [List.countP_append]
          congr 1
          by_cases h0 : 0 ≤ p.2[j]
          · simp [List.countP_cons, h0]
          · cases T <;> simp [List.countP_cons, h0]
        generalize hse : p.2[j] = x at *
        have hst := hWV.nums.sto (P := Try.prog) (t := 3) (by simp only [ty]) i (by simpa using hil) ((miss T (fun _ => false) (p.2.take j) + 1 : Nat) : Int) rfl
        have hWn := hWV.num i ((miss T (fun _ => false) (p.2.take j) + 1 : Nat) : Int)
        rw [List.set_set] at hWn
        have hqn : (V.setCell ⟨Mi, i, none⟩ (.int .i64 ((miss T (fun _ => false) (p.2.take j) + 1 : Nat) : Int))).heap[q]? = _ := (heap_set _ (hWV.nums.ne hqb (by decide))).trans hqb
        simp (disch := first | omega | assumption | (simp only [O1, World.size_alloc, World.size_setCell, World.size_drew]; first | done | omega)) only [O1, D2, ↓H0, S0, ↓S1, ↓S2, ↓S3, ↓S4, S5, S5b, S5c, ↓S6, S6b, M0, E0, ty, tl, te, tc, i64_wrap, u64_wrap, iaV_sl, iaV_arr, faV_pa, nck_pa, heap_new, heap_old, heap_set, ↓reduceIte, Nat.reduceEqDiff, Nat.reduceLT, Nat.reduceAdd, Int.reduceLT, Int.reduceLE, decide_false, decide_true, dec_true, dec_false, true_and, and_true, true_imp_iff, Bool.not_true, Bool.not_false, Option.map_none, Int.reduceToNat, Int.toNat_zero, Int.toNat_one, lkV_false, lkV_true, f1, f2, f5, f6, f7, f8, f30, f31, f32, f9, f10, f38, f39, f40, hs]
        refine Br_if (fun h3 => ?_) (fun h3 => ?_) <;> (try simp (disch := first | omega | assumption | (simp only [O1, World.size_alloc, World.size_setCell, World.size_drew]; first | done | omega)) only [O1, D2, ↓H0, S0, ↓S1, ↓S2, ↓S3, ↓S4, S5, S5b, S5c, ↓S6, S6b, M0, E0, ty, tl, te, tc, i64_wrap, u64_wrap, iaV_sl, iaV_arr, faV_pa, nck_pa, heap_new, heap_old, heap_set, ↓reduceIte, Nat.reduceEqDiff, Nat.reduceLT, Nat.reduceAdd, Int.reduceLT, Int.reduceLE, decide_false, decide_true, dec_true, dec_false, true_and, and_true, true_imp_iff, Bool.not_true, Bool.not_false, Option.map_none, Int.reduceToNat, Int.toNat_zero, Int.toNat_one, lkV_false, lkV_true, f1, f2, f5, f6, f7, f8, f30, f31, f32, f9, f10, f38, f39, f40, hrd, hce, hst])
        · rw [if_pos h3] at hms
          refine ⟨k2 - 1, by omega, j + 1, by omega, ?_, hqn, rfl⟩
          rw [hms]; exact hWn
        · cases T with
          | true =>
            simp (disch := first | omega | assumption | (simp only [O1, World.size_alloc, World.size_setCell, World.size_drew]; first | done | omega)) only [O1, D2, ↓H0, S0, ↓S1, ↓S2, ↓S3, ↓S4, S5, S5b, S5c, ↓S6, S6b, M0, E0, ty, tl, te, tc, i64_wrap, u64_wrap, iaV_sl, iaV_arr, faV_pa, nck_pa, heap_new, heap_old, heap_set, ↓reduceIte, Nat.reduceEqDiff, Nat.reduceLT, Nat.reduceAdd, Int.reduceLT, Int.reduceLE, decide_false, decide_true, dec_true, dec_false, true_and, and_true, true_imp_iff, Bool.not_true, Bool.not_false, Option.map_none, Int.reduceToNat, Int.toNat_zero, Int.toNat_one, lkV_false, lkV_true, f1, f2, f5, f6, f7, f8, f30, f31, f32, f9, f10, f38, f39, f40, hrd, hce, hst]
            refine ⟨k2 - 1, by omega, j + 1, by omega, ?_, hqb, rfl⟩
            rw [hms, if_neg h3]; exact hWV
          | false =>
            simp (disch := first | omega | assumption | (simp only [O1, World.size_alloc, World.size_setCell, World.size_drew]; first | done | omega)) only [O1, D2, ↓H0, S0, ↓S1, ↓S2, ↓S3, ↓S4, S5, S5b, S5c, ↓S6, S6b, M0, E0, ty, tl, te, tc, i64_wrap, u64_wrap, iaV_sl, iaV_arr, faV_pa, nck_pa, heap_new, heap_old, heap_set, ↓reduceIte, Nat.reduceEqDiff, Nat.reduceLT, Nat.reduceAdd, Int.reduceLT, Int.reduceLE, decide_false, decide_true, dec_true, dec_false, true_and, and_true, true_imp_iff, Bool.not_true, Bool.not_false, Option.map_none, Int.reduceToNat, Int.toNat_zero, Int.toNat_one, lkV_false, lkV_true, f1, f2, f5, f6, f7, f8, f30, f31, f32, f9, f10, f38, f39, f40, hrd, hce, hst]
            refine ⟨k2 - 1, by omega, j + 1, by omega, ?_, hqn, rfl⟩
            rw [hms, if_neg h3]; exact hWn
      · have hj : p.2.take j = p.2 := List.take_of_length_le (by omega)
        rw [hj] at hWV hrd hce
        have hm' : ∀ i' : Nat, i' < g.prods.length → (mis.set i ((miss T (fun _ => false) p.2 : Nat) : Int))[i']? = some (if i' < i + 1 then ((miss T (fun _ => false) (g.prods.getD i' (0, [])).2 : Nat) : Int) else 0) := by
          intro i' hi'
          rw [List.getElem?_set]
          by_cases e : i = i'
          · subst e; rw [if_pos rfl, if_pos (by omega), if_pos (by omega), hgD]
          · rw [if_neg e, hm i' hi']
            by_cases e2 : i' < i
            · rw [if_pos e2, if_pos (by omega)]
            · rw [if_neg e2, if_neg (by omega)]
        have hfew := hI.few
        simp (disch := first | omega | assumption | (simp only [O1, World.size_alloc, World.size_setCell, World.size_drew]; first | done | omega)) only [O1, D2, ↓H0, S0, ↓S1, ↓S2, ↓S3, ↓S4, S5, S5b, S5c, ↓S6, S6b, M0, E0, ty, tl, te, tc, i64_wrap, u64_wrap, iaV_sl, iaV_arr, faV_pa, nck_pa, heap_new, heap_old, heap_set, ↓reduceIte, Nat.reduceEqDiff, Nat.reduceLT, Nat.reduceAdd, Int.reduceLT, Int.reduceLE, decide_false, decide_true, dec_true, dec_false, true_and, and_true, true_imp_iff, Bool.not_true, Bool.not_false, Option.map_none, Int.reduceToNat, Int.toNat_zero, Int.toNat_one, lkV_false, lkV_true, f1, f2, f5, f6, f7, f8, f30, f31, f32, f9, f10, f38, f39, f40, hrd, hce]
        refine Br_if (fun h4 => ?_) (fun h4 => ?_) <;> (try simp (disch := first | omega | assumption | (simp only [O1, World.size_alloc, World.size_setCell, World.size_drew]; first | done | omega)) only [O1, D2, ↓H0, S0, ↓S1, ↓S2, ↓S3, ↓S4, S5, S5b, S5c, ↓S6, S6b, M0, E0, ty, tl, te, tc, i64_wrap, u64_wrap, iaV_sl, iaV_arr, faV_pa, nck_pa, heap_new, heap_old, heap_set, ↓reduceIte, Nat.reduceEqDiff, Nat.reduceLT, Nat.reduceAdd, Int.reduceLT, Int.reduceLE, decide_false, decide_true, dec_true, dec_false, true_and, and_true, true_imp_iff, Bool.not_true, Bool.not_false, Option.map_none, Int.reduceToNat, Int.toNat_zero, Int.toNat_one, lkV_false, lkV_true, f1, f2, f5, f6, f7, f8, f30, f31, f32, f9, f10, f38, f39, f40, hqb, CallV_func])
        · have h0 : miss T (fun _ => false) p.2 = 0 := by omega
          refine (hWV.call hI.len (by omega) hp0 hp1).then ?_
          rintro v Y (⟨hl1, rfl⟩ | ⟨hl1, wv', hWY, _, _⟩)
          · simp (disch := first | omega | assumption | (simp only [O1, World.size_alloc, World.size_setCell, World.size_drew]; first | done | omega)) only [O1, D2, ↓H0, S0, ↓S1, ↓S2, ↓S3, ↓S4, S5, S5b, S5c, ↓S6, S6b, M0, E0, ty, tl, te, tc, i64_wrap, u64_wrap, iaV_sl, iaV_arr, faV_pa, nck_pa, heap_new, heap_old, heap_set, ↓reduceIte, Nat.reduceEqDiff, Nat.reduceLT, Nat.reduceAdd, Int.reduceLT, Int.reduceLE, decide_false, decide_true, dec_true, dec_false, true_and, and_true, true_imp_iff, Bool.not_true, Bool.not_false, Option.map_none, Int.reduceToNat, Int.toNat_zero, Int.toNat_one, lkV_false, lkV_true, f1, f2, f5, f6, f7, f8, f30, f31, f32, f9, f10, f38, f39, f40]
            exact ⟨k - 1, by omega, i + 1, l, _, wv, work, by omega, hWV, hI.more fun _ => by rw [hgD]; exact hl1, by simpa using hml, hm', rfl⟩
          · simp (disch := first | omega | assumption | (simp only [O1, World.size_alloc, World.size_setCell, World.size_drew]; first | done | omega)) only [O1, D2, ↓H0, S0, ↓S1, ↓S2, ↓S3, ↓S4, S5, S5b, S5c, ↓S6, S6b, M0, E0, ty, tl, te, tc, i64_wrap, u64_wrap, iaV_sl, iaV_arr, faV_pa, nck_pa, heap_new, heap_old, heap_set, ↓reduceIte, Nat.reduceEqDiff, Nat.reduceLT, Nat.reduceAdd, Int.reduceLT, Int.reduceLE, decide_false, decide_true, dec_true, dec_false, true_and, and_true, true_imp_iff, Bool.not_true, Bool.not_false, Option.map_none, Int.reduceToNat, Int.toNat_zero, Int.toNat_one, lkV_false, lkV_true, f1, f2, f5, f6, f7, f8, f30, f31, f32, f9, f10, f38, f39, f40]
            have hadd := hI.add (a := p.1.toNat) (by omega) hl1 (by rw [Int.toNat_of_nonneg hp0]; exact hI.ready hmem h0)
            rw [Int.toNat_of_nonneg hp0] at hadd
            exact ⟨k - 1, by omega, i + 1, _, _, wv', _, by omega, hWY, hadd.more fun _ => by rw [hgD, List.getElem?_set, if_pos rfl, if_pos (by rw [hI.len]; omega)], by simpa using hml, hm', rfl⟩
        · exact ⟨k - 1, by omega, i + 1, l, _, wv, work, by omega, hWV, hI.more fun h0 => by rw [hgD] at h0; omega, by simpa using hml, hm', rfl⟩
    · have hil : i = g.prods.length := by omega
      subst hil
      have hbU := hbx ▸ hW.box
      simp (disch := first | omega | assumption | (simp only [O1, World.size_alloc, World.size_setCell, World.size_drew]; first | done | omega)) only [O1, D2, ↓H0, S0, ↓S1, ↓S2, ↓S3, ↓S4, S5, S5b, S5c, ↓S6, S6b, M0, E0, ty, tl, te, tc, i64_wrap, u64_wrap, iaV_sl, iaV_arr, faV_pa, nck_pa, heap_new, heap_old, heap_set, ↓reduceIte, Nat.reduceEqDiff, Nat.reduceLT, Nat.reduceAdd, Int.reduceLT, Int.reduceLE, decide_false, decide_true, dec_true, dec_false, true_and, and_true, true_imp_iff, Bool.not_true, Bool.not_false, Option.map_none, Int.reduceToNat, Int.toNat_zero, Int.toNat_one, lkV_false, lkV_true, f1, f2, f5, f6, f7, f8, f30, f31, f32, hbU, ldA5]
      refine (uses_ok _ g U (hg0.ext hW.ext) hS).then ?_
      rintro _ V ⟨⟨G, rfl, hGl, hRO⟩, hxV⟩
      have hWV := hW.ext' hxV
      have hUV := hxV.size
      have hbwU := lt_heap hW.wrk
      simp (disch := first | omega | assumption | (simp only [O1, World.size_alloc, World.size_setCell, World.size_drew]; first | done | omega)) only [O1, D2, ↓H0, S0, ↓S1, ↓S2, ↓S3, ↓S4, S5, S5b, S5c, ↓S6, S6b, M0, E0, ty, tl, te, tc, i64_wrap, u64_wrap, iaV_sl, iaV_arr, faV_pa, nck_pa, heap_new, heap_old, heap_set, ↓reduceIte, Nat.reduceEqDiff, Nat.reduceLT, Nat.reduceAdd, Int.reduceLT, Int.reduceLE, decide_false, decide_true, dec_true, dec_false, true_and, and_true, true_imp_iff, Bool.not_true, Bool.not_false, Option.map_none, Int.reduceToNat, Int.toNat_zero, Int.toNat_one, lkV_false, lkV_true, f1, f2, f5, f6, f7, f8, f30, f31, f32]
      have hus := hn2
      have hread : ∀ s : Nat, s < g.names.length → ∃ R c, (usesUp g.prods s g.prods.length).length ≤ c ∧ ∀ w', (∀ k, U.heap.size ≤ k → k < V.heap.size → w'.heap[k]? = V.heap[k]?) → rd w' (some ⟨G, 0, none⟩) s = some (.slice R (usesUp g.prods s g.prods.length).length c) ∧
          ∀ j (hj : j < (usesUp g.prods s g.prods.length).length), rd w' R j = some (IV (usesUp g.prods s g.prods.length)[j]) := by
        intro s hs
        have := hRO.read hGl s (by simpa using hs)
        simpa using this
      refine ⟨fun k t X => ∃ (D : Int → Bool) (l : List Bool) (mis : List Int) (wv : Value) (work : List Int), k = 2 * falses l + work.length ∧ CloW w X bx g.names.length B0 I bi Mi bw bw l mis wv work ∧ CloI g.names.length T g.prods D l work (fun i => miss T D (g.prods.getD i (0, [])).2) g.prods.length ∧
        mis.length = g.prods.length ∧ (∀ i' : Nat, i' < g.prods.length → mis[i']? = some ((miss T D (g.prods.getD i' (0, [])).2 : Nat) : Int)) ∧ (∀ b, wv.ownBlock = some b → b < U.heap.size ∨ V.heap.size ≤ b) ∧ (∀ k, U.heap.size ≤ k → k < V.heap.size → X.heap[k]? = V.heap[k]?) ∧ V.heap.size ≤ X.heap.size ∧
        t 2 = pa (some ⟨B0, 0, none⟩) 0 ∧ t 5 = pa (some ⟨bi, 0, none⟩) 0 ∧ t 6 = .slice (some ⟨Mi, 0, none⟩) g.prods.length g.prods.length ∧ t 7 = pa (some ⟨bw, 0, none⟩) 0 ∧ t 8 = .func (.func 134) #[] #[pa (some ⟨bi, 0, none⟩) 0, pa (some ⟨bw, 0, none⟩) 0] ∧ t 13 = .slice (some ⟨G, 0, none⟩) g.names.length g.names.length,
        ⟨_, fun _ => false, l, mis, wv, work, rfl, hWV, hI, hml, fun i' hi' => by rw [hm i' hi', if_pos hi'], fun b hb => .inl (hW.row.lt b hb).2, fun _ _ _ => rfl, Nat.le_refl _, ?_⟩, ?_⟩
      · simp (disch := first | omega | assumption | (simp only [O1, World.size_alloc, World.size_setCell, World.size_drew]; first | done | omega)) only [O1, D2, ↓H0, S0, ↓S1, ↓S2, ↓S3, ↓S4, S5, S5b, S5c, ↓S6, S6b, M0, E0, ty, tl, te, tc, i64_wrap, u64_wrap, iaV_sl, iaV_arr, faV_pa, nck_pa, heap_new, heap_old, heap_set, ↓reduceIte, Nat.reduceEqDiff, Nat.reduceLT, Nat.reduceAdd, Int.reduceLT, Int.reduceLE, decide_false, decide_true, dec_true, dec_false, true_and, and_true, true_imp_iff, Bool.not_true, Bool.not_false, Option.map_none, Int.reduceToNat, Int.toNat_zero, Int.toNat_one, lkV_false, lkV_true, f1, f2, f5, f6, f7, f8] <;> rfl
      clear hWV hI hm hml f1 f2 f5 f6 f7 f8 f30 f31 f32 hbU
      have hbw0 := lt_heap hW.wrk
      have hMi0 := hW.nums.lt
      have hI0 := hW.bits.lt
      clear hW
      rintro k t X ⟨D, l, mis, wv, work, rfl, hWX, hI, hml, hm, hwo, hsame, hXs, f2, f5, f6, f7, f8, f13⟩
      have hwk := hWX.wrk
      rcases List.eq_nil_or_concat work with rfl | ⟨work', s, hwe⟩
      · obtain ⟨QA, qc, rfl, hqc, hQ⟩ := hWX.row.sq
        have hin' := hWX.inn
        simp (disch := first | omega | assumption | (simp only [O1, World.size_alloc, World.size_setCell, World.size_drew]; first | done | omega)) only [O1, D2, ↓H0, S0, ↓S1, ↓S2, ↓S3, ↓S4, S5, S5b, S5c, ↓S6, S6b, M0, E0, ty, tl, te, tc, i64_wrap, u64_wrap, iaV_sl, iaV_arr, faV_pa, nck_pa, heap_new, heap_old, heap_set, ↓reduceIte, Nat.reduceEqDiff, Nat.reduceLT, Nat.reduceAdd, Int.reduceLT, Int.reduceLE, decide_false, decide_true, dec_true, dec_false, true_and, and_true, true_imp_iff, Bool.not_true, Bool.not_false, Option.map_none, Int.reduceToNat, Int.toNat_zero, Int.toNat_one, lkV_false, lkV_true, f2, f5, f6, f7, f8, f13, hwk, hin', List.length_nil]
        have hsq := hWX.bits.sq
        rw [hI.len] at hsq
        exact ⟨.inr ⟨hS, l, hsq, hI.done (fun _ _ => rfl) hin⟩, hWX.ext⟩
      · rw [List.concat_eq_append] at hwe
        subst hwe
        obtain ⟨hs, hDs, hI1⟩ := hI.take
        obtain ⟨v', hslv, hown, hone, hW1⟩ := hWX.pop
        obtain ⟨QA, qc, rfl, hQs, hQl⟩ := hWX.row.last
        have e1 : ((work'.length + 1 : Nat) : Int) - 1 = (work'.length : Int) := by omega
        have hst := sto_own (P := Try.prog) (T := 23) (w := X) (g := bw) (o := 0) (k := 0) (x := v') (by simp only [ty]) hwk (by simp) hone
        rw [Nat.zero_add] at hst
        obtain ⟨X1, hX1⟩ : ∃ X1, X1 = X.setCell ⟨bw, 0, none⟩ v' := ⟨_, rfl⟩
        rw [← hX1] at hst hW1
        have hX1s : X1.heap.size = X.heap.size := by rw [hX1]; simp
        have hsame1 : ∀ k, U.heap.size ≤ k → k < V.heap.size → X1.heap[k]? = V.heap[k]? := fun k h1 h2 => by rw [hX1, heap_set _ (by omega)]; exact hsame k h1 h2
        have hfew := hI1.few
        obtain ⟨R, rc, hrc, hrow⟩ := hread s.toNat (by omega)
        rw [Int.toNat_of_nonneg hs.1] at hrc hrow
        obtain ⟨hr1, hr2⟩ := hrow X1 hsame1
        have hr1' := hr1
        rw [rd_own, Nat.zero_add] at hr1'
        simp (disch := first | omega | assumption | (simp only [O1, World.size_alloc, World.size_setCell, World.size_drew]; first | done | omega)) only [O1, D2, ↓H0, S0, ↓S1, ↓S2, ↓S3, ↓S4, S5, S5b, S5c, ↓S6, S6b, M0, E0, ty, tl, te, tc, i64_wrap, u64_wrap, iaV_sl, iaV_arr, faV_pa, nck_pa, heap_new, heap_old, heap_set, ↓reduceIte, Nat.reduceEqDiff, Nat.reduceLT, Nat.reduceAdd, Int.reduceLT, Int.reduceLE, decide_false, decide_true, dec_true, dec_false, true_and, and_true, true_imp_iff, Bool.not_true, Bool.not_false, Option.map_none, Int.reduceToNat, Int.toNat_zero, Int.toNat_one, lkV_false, lkV_true, f2, f5, f6, f7, f8, f13, hwk, hQl, e1, hslv, hst, hr1, hr1']
        obtain ⟨row, hrw⟩ : ∃ row, row = usesUp g.prods s g.prods.length := ⟨_, rfl⟩
        rw [← hrw] at hrc hr1 hr1' ⊢
        have hrow' : ∀ w', (∀ k, U.heap.size ≤ k → k < V.heap.size → w'.heap[k]? = V.heap[k]?) → ∀ j (hj : j < row.length), rd w' R j = some (IV row[j]) := by rw [hrw]; exact fun w' h => (hrow w' h).2
        have hrl : row.length ≤ 16 * g.prods.length := by rw [hrw]; exact usesUp_len hside
        have hcnt : ∀ i : Nat, i < g.prods.length → row.count (i : Int) = (g.prods.getD i (0, [])).2.count s := fun i hi => by rw [hrw, usesUp_count, if_pos hi]
        refine ⟨fun k2 t Y => ∃ (j : Nat) (l2 : List Bool) (mis2 : List Int) (wv2 : Value) (work2 : List Int), k2 + j = row.length ∧ 2 * falses l2 + work2.length ≤ 2 * falses l + work'.length ∧ CloW w Y bx g.names.length B0 I bi Mi bw bw l2 mis2 wv2 work2 ∧
          CloI g.names.length T g.prods (addD D s) l2 work2 (fun i => miss T D (g.prods.getD i (0, [])).2 - (row.take j).count (i : Int)) g.prods.length ∧ mis2.length = g.prods.length ∧ (∀ i' : Nat, i' < g.prods.length → mis2[i']? = some ((miss T D (g.prods.getD i' (0, [])).2 - (row.take j).count (i' : Int) : Nat) : Int)) ∧
          (∀ b, wv2.ownBlock = some b → b < U.heap.size ∨ V.heap.size ≤ b) ∧ (∀ k, U.heap.size ≤ k → k < V.heap.size → Y.heap[k]? = V.heap[k]?) ∧ V.heap.size ≤ Y.heap.size ∧
          t 2 = pa (some ⟨B0, 0, none⟩) 0 ∧ t 5 = pa (some ⟨bi, 0, none⟩) 0 ∧ t 6 = .slice (some ⟨Mi, 0, none⟩) g.prods.length g.prods.length ∧ t 7 = pa (some ⟨bw, 0, none⟩) 0 ∧ t 8 = .func (.func 134) #[] #[pa (some ⟨bi, 0, none⟩) 0, pa (some ⟨bw, 0, none⟩) 0] ∧ t 13 = .slice (some ⟨G, 0, none⟩) g.names.length g.names.length ∧
          t 86 = .slice R row.length rc ∧ t 87 = .int .i64 row.length ∧ t 88 = .int .i64 j,
          ⟨row.length, 0, l, mis, v', work', by omega, Nat.le_refl _, hW1, by simpa using hI1, hml, by simpa using hm, fun b hb => hwo b (by rw [← hown]; exact hb), hsame1, by omega, ?_⟩, ?_⟩
        · simp (disch := first | omega | assumption | (simp only [O1, World.size_alloc, World.size_setCell, World.size_drew]; first | done | omega)) only [O1, D2, ↓H0, S0, ↓S1, ↓S2, ↓S3, ↓S4, S5, S5b, S5c, ↓S6, S6b, M0, E0, ty, tl, te, tc, i64_wrap, u64_wrap, iaV_sl, iaV_arr, faV_pa, nck_pa, heap_new, heap_old, heap_set, ↓reduceIte, Nat.reduceEqDiff, Nat.reduceLT, Nat.reduceAdd, Int.reduceLT, Int.reduceLE, decide_false, decide_true, dec_true, dec_false, true_and, and_true, true_imp_iff, Bool.not_true, Bool.not_false, Option.map_none, Int.reduceToNat, Int.toNat_zero, Int.toNat_one, lkV_false, lkV_true, f2, f5, f6, f7, f8, f13] <;> rfl
        clear hW1 hsame1 hr1 hr1' hst hwk hslv hQl hWX hI1 f2 f5 f6 f7 f8 f13
        rintro k2 t Y ⟨j, l2, mis2, wv2, work2, hk2, hle, hWY, hIY, hml2, hm2, hwo2, hsame2, hYs, f2, f5, f6, f7, f8, f13, f86, f87, f88⟩
        simp (disch := first | omega | assumption | (simp only [O1, World.size_alloc, World.size_setCell, World.size_drew]; first | done | omega)) only [O1, D2, ↓H0, S0, ↓S1, ↓S2, ↓S3, ↓S4, S5, S5b, S5c, ↓S6, S6b, M0, E0, ty, tl, te, tc, i64_wrap, u64_wrap, iaV_sl, iaV_arr, faV_pa, nck_pa, heap_new, heap_old, heap_set, ↓reduceIte, Nat.reduceEqDiff, Nat.reduceLT, Nat.reduceAdd, Int.reduceLT, Int.reduceLE, decide_false, decide_true, dec_true, dec_false, true_and, and_true, true_imp_iff, Bool.not_true, Bool.not_false, Option.map_none, Int.reduceToNat, Int.toNat_zero, Int.toNat_one, lkV_false, lkV_true, f2, f5, f6, f7, f8, f13, f86, f87, f88]
        refine Br_if (fun h2 => ?_) (fun h2' => ?_) <;> (try simp (disch := first | omega | assumption | (simp only [O1, World.size_alloc, World.size_setCell, World.size_drew]; first | done | omega)) only [O1, D2, ↓H0, S0, ↓S1, ↓S2, ↓S3, ↓S4, S5, S5b, S5c, ↓S6, S6b, M0, E0, ty, tl, te, tc, i64_wrap, u64_wrap, iaV_sl, iaV_arr, faV_pa, nck_pa, heap_new, heap_old, heap_set, ↓reduceIte, Nat.reduceEqDiff, Nat.reduceLT, Nat.reduceAdd, Int.reduceLT, Int.reduceLE, decide_false, decide_true, dec_true, dec_false, true_and, and_true, true_imp_iff, Bool.not_true, Bool.not_false, Option.map_none, Int.reduceToNat, Int.toNat_zero, Int.toNat_one, lkV_false, lkV_true, f2, f5, f6, f7, f8, f13, f86, f87, f88])
        · have hj : j < row.length := by omega
          have hrj := hrow' Y hsame2 j hj
          have hRs := rd_isSome hrj
          have htk : row.take (j + 1) = row.take j ++ [row[j]] := List.take_succ_eq_append_getElem hj
          have hrm := usesUp_mem (show row[j] ∈ usesUp g.prods s g.prods.length by rw [← hrw]; exact List.getElem_mem _)
          have hle1 : (row.take (j + 1)).count row[j] ≤ row.count row[j] := (List.take_sublist _ _).count_le _
          obtain ⟨i, hi, hie⟩ : ∃ i : Nat, i < g.prods.length ∧ row[j] = (i : Int) := ⟨row[j].toNat, by omega, by omega⟩
          rw [hie] at hrj htk hle1
          have hci := hcnt i hi
          have hms := miss_add (T := T) hs.1 hDs (g.prods.getD i (0, [])).2
          have hgD := hD0 i hi
          have hmem : g.prods[i] ∈ g.prods := List.getElem_mem _
          have hlen := hside _ hmem
          have hmb : miss T D (g.prods.getD i (0, [])).2 ≤ 16 := Nat.le_trans List.countP_le_length (by rw [hgD]; exact hlen)
          have hc1 : (row.take (j + 1)).count (i : Int) = (row.take j).count (i : Int) + 1 := by rw [htk, List.count_append]; simp
          have hcx : ∀ x : Nat, x ≠ i → (row.take (j + 1)).count (x : Int) = (row.take j).count (x : Int) := fun x hx => by
            rw [htk, List.count_append, List.count_cons]
            have : ¬ (i : Int) = (x : Int) := by omega
            simp [this]
          obtain ⟨Mv, hMv⟩ : ∃ Mv, Mv = miss T D (g.prods.getD i (0, [])).2 - (row.take j).count (i : Int) := ⟨_, rfl⟩
          have hil : i < mis2.length := by omega
          have hmi := hm2 i hi
          rw [← hMv, List.getElem?_eq_getElem hil] at hmi
          simp only [Option.some.injEq] at hmi
          have hrd := hWY.nums.rd i hil
          have hce := hWY.nums.cell i hil
          rw [hmi] at hrd hce
          have e2 : ((Mv : Nat) : Int) - 1 = ((Mv - 1 : Nat) : Int) := by omega
          have hst := hWY.nums.sto (P := Try.prog) (t := 3) (by simp only [ty]) i hil ((Mv - 1 : Nat) : Int) rfl
          have hWn := hWY.num i ((Mv - 1 : Nat) : Int)
          have hMi : Mi < U.heap.size := hMi0
          have hsame3 : ∀ k, U.heap.size ≤ k → k < V.heap.size → (Y.setCell ⟨Mi, i, none⟩ (IV ((Mv - 1 : Nat) : Int))).heap[k]? = V.heap[k]? := fun k h1 h2 => by rw [heap_set _ (by omega)]; exact hsame2 k h1 h2
          obtain ⟨Z, hZ⟩ : ∃ Z, Z = Y.setCell ⟨Mi, i, none⟩ (IV ((Mv - 1 : Nat) : Int)) := ⟨_, rfl⟩
          have hZs : Z.heap.size = Y.heap.size := by rw [hZ]; simp
          rw [← hZ] at hst hWn hsame3
          have hgi : (mis2.set i ((Mv - 1 : Nat) : Int))[i]'(by simpa using hil) = ((Mv - 1 : Nat) : Int) := by simp
          have hrd3 := hWn.nums.rd i (by simpa using hil)
          have hce3 := hWn.nums.cell i (by simpa using hil)
          rw [hgi] at hrd3 hce3
          have hm3 : ∀ i' : Nat, i' < g.prods.length → (mis2.set i ((Mv - 1 : Nat) : Int))[i']? = some ((miss T D (g.prods.getD i' (0, [])).2 - (row.take (j + 1)).count (i' : Int) : Nat) : Int) := by
            intro i' hi'
            rw [List.getElem?_set]
            by_cases e : i = i'
            · subst e
              rw [if_pos rfl, if_pos hil, hc1]
              congr 2; omega
            · rw [if_neg e, hm2 i' hi', hcx i' (fun h => e h.symm)]
          have hIn : ∀ {l3 : List Bool} {w3 : List Int}, CloI g.names.length T g.prods (addD D s) l3 w3 (fun i => miss T D (g.prods.getD i (0, [])).2 - (row.take j).count (i : Int)) g.prods.length → (Mv - 1 = 0 → l3[((g.prods.getD i (0, [])).1).toNat]? = some true) →
              CloI g.names.length T g.prods (addD D s) l3 w3 (fun i => miss T D (g.prods.getD i (0, [])).2 - (row.take (j + 1)).count (i : Int)) g.prods.length := by
            intro l3 w3 h hz
            refine h.put i (fun x hx hne h0 => ⟨hx, ?_⟩) (fun h0 => hz ?_)
            · rw [hcx x hne] at h0; exact h0
            · rw [hc1] at h0; omega
          have hfew2 := hIY.few
          have hilI : (i : Int) < (g.prods.length : Int) := by omega
          simp (disch := first | omega | assumption | (simp only [O1, World.size_alloc, World.size_setCell, World.size_drew]; first | done | omega)) only [O1, D2, ↓H0, S0, ↓S1, ↓S2, ↓S3, ↓S4, S5, S5b, S5c, ↓S6, S6b, M0, E0, ty, tl, te, tc, i64_wrap, u64_wrap, iaV_sl, iaV_arr, faV_pa, nck_pa, heap_new, heap_old, heap_set, ↓reduceIte, Nat.reduceEqDiff, Nat.reduceLT, Nat.reduceAdd, Int.reduceLT, Int.reduceLE, decide_false, decide_true, dec_true, dec_false, true_and, and_true, true_imp_iff, Bool.not_true, Bool.not_false, Option.map_none, Int.reduceToNat, Int.toNat_zero, Int.toNat_one, lkV_false, lkV_true, f2, f5, f6, f7, f8, f13, f86, f87, f88, hrj, hrd, hce, e2, hst, hrd3, hce3]
          refine Br_if (fun h3 => ?_) (fun h3 => ?_) <;> (try simp (disch := first | omega | assumption | (simp only [O1, World.size_alloc, World.size_setCell, World.size_drew]; first | done | omega)) only [O1, D2, ↓H0, S0, ↓S1, ↓S2, ↓S3, ↓S4, S5, S5b, S5c, ↓S6, S6b, M0, E0, ty, tl, te, tc, i64_wrap, u64_wrap, iaV_sl, iaV_arr, faV_pa, nck_pa, heap_new, heap_old, heap_set, ↓reduceIte, Nat.reduceEqDiff, Nat.reduceLT, Nat.reduceAdd, Int.reduceLT, Int.reduceLE, decide_false, decide_true, dec_true, dec_false, true_and, and_true, true_imp_iff, Bool.not_true, Bool.not_false, Option.map_none, Int.reduceToNat, Int.toNat_zero, Int.toNat_one, lkV_false, lkV_true, f2, f5, f6, f7, f8, f13, f86, f87, f88, hrj, hrd, hce, e2, hst, hrd3, hce3])
          · have hbZ := hbx ▸ hWn.box
            obtain ⟨hl, _⟩ := hC i hi
            have hl' := hWn.ext.rd hl
            have hAs := rd_isSome hl
            obtain ⟨⟨hp0, hp1⟩, hps⟩ := hin _ hmem
            simp (disch := first | omega | assumption | (simp only [O1, World.size_alloc, World.size_setCell, World.size_drew]; first | done | omega)) only [O1, D2, ↓H0, S0, ↓S1, ↓S2, ↓S3, ↓S4, S5, S5b, S5c, ↓S6, S6b, M0, E0, ty, tl, te, tc, i64_wrap, u64_wrap, iaV_sl, iaV_arr, faV_pa, nck_pa, heap_new, heap_old, heap_set, ↓reduceIte, Nat.reduceEqDiff, Nat.reduceLT, Nat.reduceAdd, Int.reduceLT, Int.reduceLE, decide_false, decide_true, dec_true, dec_false, true_and, and_true, true_imp_iff, Bool.not_true, Bool.not_false, Option.map_none, Int.reduceToNat, Int.toNat_zero, Int.toNat_one, lkV_false, lkV_true, f2, f5, f6, f7, f8, f13, f86, f87, f88, hbZ, hl', CallV_func]
            refine (hWn.call hIY.len (by omega) hp0 hp1).then ?_
            rintro v Q (⟨hl1, rfl⟩ | ⟨hl1, wv3, hWQ, hch, hv3⟩)
            · simp (disch := first | omega | assumption | (simp only [O1, World.size_alloc, World.size_setCell, World.size_drew]; first | done | omega)) only [O1, D2, ↓H0, S0, ↓S1, ↓S2, ↓S3, ↓S4, S5, S5b, S5c, ↓S6, S6b, M0, E0, ty, tl, te, tc, i64_wrap, u64_wrap, iaV_sl, iaV_arr, faV_pa, nck_pa, heap_new, heap_old, heap_set, ↓reduceIte, Nat.reduceEqDiff, Nat.reduceLT, Nat.reduceAdd, Int.reduceLT, Int.reduceLE, decide_false, decide_true, dec_true, dec_false, true_and, and_true, true_imp_iff, Bool.not_true, Bool.not_false, Option.map_none, Int.reduceToNat, Int.toNat_zero, Int.toNat_one, lkV_false, lkV_true, f2, f5, f6, f7, f8, f13, f86, f87, f88]
              exact ⟨k2 - 1, by omega, j + 1, l2, _, wv2, work2, by omega, hle, hWn, hIn hIY fun _ => by rw [hgD]; exact hl1, by simpa using hml2, hm3, hwo2, hsame3, by omega, rfl⟩
            · have hgen : Gen T g.prods g.prods[i].1 := hIY.ready hmem (by rw [← hgD]; omega)
              have hadd := hIY.add (a := g.prods[i].1.toNat) (by omega) hl1 (by rw [Int.toNat_of_nonneg hp0]; exact hgen)
              rw [Int.toNat_of_nonneg hp0] at hadd
              have hfs := falses_set hl1
              have hQs := hch.size
              have hsame4 : ∀ k, U.heap.size ≤ k → k < V.heap.size → Q.heap[k]? = V.heap[k]? := fun k h1 h2 => by
                rw [hch.block k (by omega) ?_]; exact hsame3 k h1 h2
                rintro (e | e | e)
                · omega
                · omega
                · have := hwo2 k e; omega
              simp (disch := first | omega | assumption | (simp only [O1, World.size_alloc, World.size_setCell, World.size_drew]; first | done | omega)) only [O1, D2, ↓H0, S0, ↓S1, ↓S2, ↓S3, ↓S4, S5, S5b, S5c, ↓S6, S6b, M0, E0, ty, tl, te, tc, i64_wrap, u64_wrap, iaV_sl, iaV_arr, faV_pa, nck_pa, heap_new, heap_old, heap_set, ↓reduceIte, Nat.reduceEqDiff, Nat.reduceLT, Nat.reduceAdd, Int.reduceLT, Int.reduceLE, decide_false, decide_true, dec_true, dec_false, true_and, and_true, true_imp_iff, Bool.not_true, Bool.not_false, Option.map_none, Int.reduceToNat, Int.toNat_zero, Int.toNat_one, lkV_false, lkV_true, f2, f5, f6, f7, f8, f13, f86, f87, f88]
              refine ⟨k2 - 1, by omega, j + 1, _, _, wv3, _, by omega, ?_, hWQ, hIn hadd fun _ => by rw [hgD, List.getElem?_set, if_pos rfl, if_pos (by rw [hIY.len]; omega)], by simpa using hml2, hm3, fun b hb => ?_, hsame4, by omega, rfl⟩
              · rw [List.length_append, List.length_cons, List.length_nil]; omega
              · rcases hv3 with h | ⟨b', h, h'⟩
                · exact hwo2 b (h ▸ hb)
                · rw [hb] at h; cases h; right; omega
          · exact ⟨k2 - 1, by omega, j + 1, l2, _, wv2, work2, by omega, hle, hWn, hIn hIY fun h0 => by omega, by simpa using hml2, hm3, hwo2, hsame3, by omega, rfl⟩
        · have hj : row.take j = row := List.take_of_length_le (by omega)
          rw [hj] at hIY hm2
          have hmD : ∀ i : Nat, i < g.prods.length → miss T D (g.prods.getD i (0, [])).2 - row.count (i : Int) = miss T (addD D s) (g.prods.getD i (0, [])).2 := fun i hi => by
            have := miss_add (T := T) hs.1 hDs (g.prods.getD i (0, [])).2
            rw [hcnt i hi]; omega
          refine ⟨2 * falses l2 + work2.length, ?_, addD D s, l2, mis2, wv2, work2, rfl, hWY, hIY.mis_eq (fun x hx h0 => by rw [hmD x hx]; exact h0), hml2, fun i' hi' => by rw [hm2 i' hi', hmD i' hi'], hwo2, hsame2, hYs⟩
          rw [List.length_append, List.length_cons, List.length_nil]; omega
theorem nullable_ok (v : Value) (g : PG) (w : World) (hg : RepPG w v g) (hs : SmallP g) :
    Ok Try.prog 37 #[v] w fun v w' => ((¬ SoundP g ∧ v = .slice none 0 0) ∨ (SoundP g ∧ ∃ l, Bools w' v l ∧ Tells g.names.length (Gen false g.prods) l)) ∧ Ext w w' := by
  have hg0 := hg
  obtain ⟨nv, tv, pv, rfl, hN, hT, hp⟩ := hg
  (refine Ok.enter Try.func37 rfl (by kernel_rfl) (Nat.le_of_ble_eq_true rfl) ?_; simp only [Try.f37, S7])
  simp (disch := first | omega | assumption | (simp only [O1, World.size_alloc, World.size_setCell, World.size_drew]; first | done | omega)) only [O1, D2, ↓H0, S0, ↓S1, ↓S2, ↓S3, ↓S4, S5, S5b, S5c, ↓S6, S6b, M0, E0, ty, tl, te, tc, i64_wrap, u64_wrap, iaV_sl, iaV_arr, faV_pa, nck_pa, heap_new, heap_old, heap_set, ↓reduceIte, Nat.reduceEqDiff, Nat.reduceLT, Nat.reduceAdd, Int.reduceLT, Int.reduceLE, decide_false, decide_true, dec_true, dec_false, true_and, and_true, true_imp_iff, Bool.not_true, Bool.not_false, Option.map_none, Int.reduceToNat, Int.toNat_zero, Int.toNat_one, lkV_false, lkV_true, ldA5]
  have hx0 := (Ext.rfl' w).al (.cells #[.int .i64 g.start, .int .i64 g.rules, nv, tv, pv] 41)
  refine (close_ok _ g false _ (hg0.ext hx0) hs).then ?_
  rintro u W ⟨h, hx⟩
  simp (disch := first | omega | assumption | (simp only [O1, World.size_alloc, World.size_setCell, World.size_drew]; first | done | omega)) only [O1, D2, ↓H0, S0, ↓S1, ↓S2, ↓S3, ↓S4, S5, S5b, S5c, ↓S6, S6b, M0, E0, ty, tl, te, tc, i64_wrap, u64_wrap, iaV_sl, iaV_arr, faV_pa, nck_pa, heap_new, heap_old, heap_set, ↓reduceIte, Nat.reduceEqDiff, Nat.reduceLT, Nat.reduceAdd, Int.reduceLT, Int.reduceLE, decide_false, decide_true, dec_true, dec_false, true_and, and_true, true_imp_iff, Bool.not_true, Bool.not_false, Option.map_none, Int.reduceToNat, Int.toNat_zero, Int.toNat_one, lkV_false, lkV_true]
  exact ⟨h, hx0.tr hx⟩
theorem generating_ok (v : Value) (g : PG) (w : World) (hg : RepPG w v g) (hs : SmallP g) :
    Ok Try.prog 35 #[v] w fun v w' => ((¬ SoundP g ∧ v = .slice none 0 0) ∨ (SoundP g ∧ ∃ l, Bools w' v l ∧ Tells g.names.length (Gen true g.prods) l)) ∧ Ext w w' := by
  have hg0 := hg
  obtain ⟨nv, tv, pv, rfl, hN, hT, hp⟩ := hg
  (refine Ok.enter Try.func35 rfl (by kernel_rfl) (Nat.le_of_ble_eq_true rfl) ?_; simp only [Try.f35, S7])
  simp (disch := first | omega | assumption | (simp only [O1, World.size_alloc, World.size_setCell, World.size_drew]; first | done | omega)) only [O1, D2, ↓H0, S0, ↓S1, ↓S2, ↓S3, ↓S4, S5, S5b, S5c, ↓S6, S6b, M0, E0, ty, tl, te, tc, i64_wrap, u64_wrap, iaV_sl, iaV_arr, faV_pa, nck_pa, heap_new, heap_old, heap_set, ↓reduceIte, Nat.reduceEqDiff, Nat.reduceLT, Nat.reduceAdd, Int.reduceLT, Int.reduceLE, decide_false, decide_true, dec_true, dec_false, true_and, and_true, true_imp_iff, Bool.not_true, Bool.not_false, Option.map_none, Int.reduceToNat, Int.toNat_zero, Int.toNat_one, lkV_false, lkV_true, ldA5]
  have hx0 := (Ext.rfl' w).al (.cells #[.int .i64 g.start, .int .i64 g.rules, nv, tv, pv] 41)
  refine (close_ok _ g true _ (hg0.ext hx0) hs).then ?_
  rintro u W ⟨h, hx⟩
  simp (disch := first | omega | assumption | (simp only [O1, World.size_alloc, World.size_setCell, World.size_drew]; first | done | omega)) only [O1, D2, ↓H0, S0, ↓S1, ↓S2, ↓S3, ↓S4, S5, S5b, S5c, ↓S6, S6b, M0, E0, ty, tl, te, tc, i64_wrap, u64_wrap, iaV_sl, iaV_arr, faV_pa, nck_pa, heap_new, heap_old, heap_set, ↓reduceIte, Nat.reduceEqDiff, Nat.reduceLT, Nat.reduceAdd, Int.reduceLT, Int.reduceLE, decide_false, decide_true, dec_true, dec_false, true_and, and_true, true_imp_iff, Bool.not_true, Bool.not_false, Option.map_none, Int.reduceToNat, Int.toNat_zero, Int.toNat_one, lkV_false, lkV_true]
  exact ⟨h, hx0.tr hx⟩
end Go.Proofs.Ytgioklmpnbnplaa
