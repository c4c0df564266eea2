/- The walks of a set's add, an item's step, a row's clone, an item's next symbol. Conditions: none. -/
import Derived.Test.YtgioklmpnbnplaaTy
import Derived.Test.YtgioklmpnbnplaaTri
import Derived.Test.YtgioklmpnbnplaaFa1
set_option linter.unusedSimpArgs false
set_option linter.unusedVariables false
set_option maxRecDepth 100000
namespace Go.Proofs.Ytgioklmpnbnplaa
open Go.V Go.RowKit

theorem kTri : KeyT Try.prog 138 triV := key_tri (by kernel_rfl)
/-- The row as a set. -/
def memF (l : List Tri) (k : Tri) : Option Value := if k ∈ l then some (.bool true) else none
/-- A set of items: the struct in block S, its map in block m, its row lv. -/
structure SetR (base : Nat) (w : World) (S m : Nat) (lv : Value) (l : List Tri) : Prop where
  box : w.heap[S]? = some (.cells #[lv, .map (some m)] 135 (0, 0))
  row : Row3 base 138 w lv l
  map : MapF triV w m (memF l)
  bs : base ≤ S
  bm : base ≤ m
/-- What a set's growing may change. -/
def Mv (S m : Nat) (lv : Value) (k : Nat) : Prop := k = S ∨ k = m ∨ lv.ownBlock = some k
structure SetG (w w' : World) (S m : Nat) (lv lv' : Value) : Prop where
  chg : Chg (Mv S m lv) w w'
  own : lv'.ownBlock = lv.ownBlock ∨ ∃ b, lv'.ownBlock = some b ∧ w.heap.size ≤ b
section
variable {base : Nat} {w w' w'' : World} {S m : Nat} {lv lv' lv'' : Value} {l : List Tri}
theorem SetG.refl (w : World) (S m : Nat) (lv : Value) : SetG w w S m lv lv := ⟨Chg.refl _ _, .inl rfl⟩
theorem SetG.tr (h : SetG w w' S m lv lv') (k : SetG w' w'' S m lv' lv'') : SetG w w'' S m lv lv'' := by
  refine ⟨h.chg.tr k.chg fun x hx hM => ?_, ?_⟩
  · rcases hM with rfl | rfl | hM
    · exact .inl rfl
    · exact .inr (.inl rfl)
    · rcases h.own with e | ⟨b, e, hb⟩
      · exact .inr (.inr (e ▸ hM))
      · rw [e] at hM; cases hM; omega
  · rcases k.own with e | ⟨b, e, hb⟩
    · rcases h.own with e2 | ⟨b, e2, hb⟩
      · exact .inl (e.trans e2)
      · exact .inr ⟨b, e.trans e2, hb⟩
    · exact .inr ⟨b, e, Nat.le_trans h.chg.size hb⟩
theorem SetG.ext (h : SetG w w' S m lv lv') (hx : Ext w' w'') : SetG w w'' S m lv lv' :=
  ⟨h.chg.tr (Chg.ext (M := fun _ => False) hx) fun x hx hM => hM.elim, h.own⟩
theorem SetG.of_ext (hx : Ext w w') : SetG w w' S m lv lv := ⟨Chg.ext hx, .inl rfl⟩
theorem SetR.ext (h : SetR base w S m lv l) (hx : Ext w w') : SetR base w' S m lv l := ⟨hx.hp h.box, h.row.ext hx, h.map.ext hx, h.bs, h.bm⟩
theorem SetR.sm (h : SetR base w S m lv l) : S ≠ m := by
  rintro rfl
  obtain ⟨es, c, ⟨h1, _⟩, _⟩ := h.map
  rw [h.box] at h1; cases h1
theorem SetR.sl (h : SetR base w S m lv l) : lv.ownBlock ≠ some S := h.row.ne h.box (by decide)
theorem SetR.ml (h : SetR base w S m lv l) : lv.ownBlock ≠ some m := by
  obtain ⟨es, c, ⟨h1, _⟩, _⟩ := h.map
  exact h.row.neM h1
theorem SetR.lt (h : SetR base w S m lv l) : ∀ k, Mv S m lv k → base ≤ k ∧ k < w.heap.size := by
  rintro k (rfl | rfl | hk)
  · exact ⟨h.bs, lt_heap h.box⟩
  · exact ⟨h.bm, h.map.lt⟩
  · exact h.row.lt k hk
/-- Blocks of other kinds are not the set's. -/
theorem SetR.no (h : SetR base w S m lv l) {q T : Nat} {cs : Array Value} {f : Nat × Nat} (hq : w.heap[q]? = some (.cells cs T f)) (h1 : T ≠ 135) (h2 : T ≠ 138) : ¬ Mv S m lv q := by
  rintro (rfl | rfl | hk)
  · rw [h.box] at hq; cases hq; exact h1 rfl
  · obtain ⟨es, c, ⟨h3, _⟩, _⟩ := h.map
    rw [h3] at hq; cases hq
  · exact h.row.ne hq h2 hk
end
def addL (l : List Tri) (x : Tri) : List Tri := if x ∈ l then l else l ++ [x]
theorem memF_push (l : List Tri) (x : Tri) : memF (l ++ [x]) = fun k => if k = x then some (.bool true) else memF l k := by
  funext k
  unfold memF
  by_cases h : k = x
  · subst h; simp
  · simp [h]
set_option maxHeartbeats 1000000 in
theorem add_ok (base S m : Nat) (lv : Value) (l : List Tri) (x : Tri) (w : World) (hS : SetR base w S m lv l) (hn : l.length < 1000000) (hb : base ≤ w.heap.size) :
    Ok Try.prog 96 #[pa (some ⟨S, 0, none⟩) 0, triV x] w fun v w' => ∃ lv', SetR base w' S m lv' (addL l x) ∧ SetG w w' S m lv lv' := by
  have hlk := fun (U : World) (hm : MapF triV U m (memF l)) => lkO_map mp132 kTri hm x false
  simp only [triV] at hlk
  (refine Ok.enter Try.func96 rfl (by kernel_rfl) (Nat.le_of_ble_eq_true rfl) ?_; simp only [Try.f96, S7])
  simp (disch := first | omega | assumption | (simp only [O1, World.size_alloc, World.size_setCell, World.size_drew]; first | done | omega)) only [O1, D2, ↓H0, S0, ↓S1, ↓S2, ↓S3, ↓S4, S5, S5b, S5c, ↓S6, S6b, M0, E0, ty, tl, te, tc, i64_wrap, u64_wrap, iaV_sl, iaV_arr, faV_pa, nck_pa, heap_new, heap_old, heap_set, ↓reduceIte, Nat.reduceEqDiff, Nat.reduceLT, Nat.reduceAdd, Int.reduceLT, Int.reduceLE, decide_false, decide_true, dec_true, dec_false, true_and, and_true, true_imp_iff, Bool.not_true, Bool.not_false, Option.map_none, Int.reduceToNat, Int.toNat_zero, Int.toNat_one, lkV_false, lkV_true, triV]
  have hx1 := (Ext.rfl' w).al (.cells #[.int .i64 x.1, .int .i64 x.2.1, .int .i64 x.2.2] 138)
  have hxb := heap_new (w := w) (.cells #[.int .i64 x.1, .int .i64 x.2.1, .int .i64 x.2.2] 138) rfl
  have hS1 := hS.ext hx1
  generalize w.alloc (.cells #[.int .i64 x.1, .int .i64 x.2.1, .int .i64 x.2.2] 138) = W at *
  obtain ⟨B, hB⟩ : ∃ B, B = w.heap.size := ⟨_, rfl⟩
  rw [← hB] at hxb ⊢
  have hSd := hS1.ext (Ext.rfl' W).dr
  have hxd : W.drew.heap[B]? = _ := hxb
  have hlk1 := hlk _ hSd.map
  have hlk2 := hlk _ hS1.map
  refine Dr_plan [] (fun _ => true) [0, 1, 2, 3, 4, 5, 6] mixed (by kernel_rfl) ?_
  simp (disch := first | omega | assumption | (simp only [O1, World.size_alloc, World.size_setCell, World.size_drew]; first | done | omega)) only [↓D1, ↓D3, ↓D4, List.not_mem_nil, not_false_eq_true, Bool.false_eq_true, false_imp_iff, upto, O1, D2, ↓H0, S0, ↓S1, ↓S2, ↓S3, ↓S4, S5, S5b, S5c, ↓S6, S6b, M0, E0, ty, tl, te, tc, i64_wrap, u64_wrap, iaV_sl, iaV_arr, faV_pa, nck_pa, heap_new, heap_old, heap_set, ↓reduceIte, Nat.reduceEqDiff, Nat.reduceLT, Nat.reduceAdd, Int.reduceLT, Int.reduceLE, decide_false, decide_true, dec_true, dec_false, true_and, and_true, true_imp_iff, Bool.not_true, Bool.not_false, Option.map_none, Int.reduceToNat, Int.toNat_zero, Int.toNat_one, lkV_false, lkV_true, hSd.box, hxd, hlk1, hS1.box, hxb, hlk2, ldA3]
  by_cases hx : x ∈ l
  · have hm : memF l x = some (.bool true) := if_pos hx
    have ha : addL l x = l := if_pos hx
    simp (disch := first | omega | assumption | (simp only [O1, World.size_alloc, World.size_setCell, World.size_drew]; first | done | omega)) only [↓D1, ↓D3, ↓D4, List.not_mem_nil, not_false_eq_true, Bool.false_eq_true, false_imp_iff, upto, O1, D2, ↓H0, S0, ↓S1, ↓S2, ↓S3, ↓S4, S5, S5b, S5c, ↓S6, S6b, M0, E0, ty, tl, te, tc, i64_wrap, u64_wrap, iaV_sl, iaV_arr, faV_pa, nck_pa, heap_new, heap_old, heap_set, ↓reduceIte, Nat.reduceEqDiff, Nat.reduceLT, Nat.reduceAdd, Int.reduceLT, Int.reduceLE, decide_false, decide_true, dec_true, dec_false, true_and, and_true, true_imp_iff, Bool.not_true, Bool.not_false, Option.map_none, Int.reduceToNat, Int.toNat_zero, Int.toNat_one, lkV_false, lkV_true, hm, Option.getD_some]
    rw [ha]
    exact ⟨lv, hSd, (SetG.of_ext hx1).ext (Ext.rfl' W).dr⟩
  · have hm : memF l x = none := if_neg hx
    have ha : addL l x = l ++ [x] := if_neg hx
    simp (disch := first | omega | assumption | (simp only [O1, World.size_alloc, World.size_setCell, World.size_drew]; first | done | omega)) only [↓D1, ↓D3, ↓D4, List.not_mem_nil, not_false_eq_true, Bool.false_eq_true, false_imp_iff, upto, O1, D2, ↓H0, S0, ↓S1, ↓S2, ↓S3, ↓S4, S5, S5b, S5c, ↓S6, S6b, M0, E0, ty, tl, te, tc, i64_wrap, u64_wrap, iaV_sl, iaV_arr, faV_pa, nck_pa, heap_new, heap_old, heap_set, ↓reduceIte, Nat.reduceEqDiff, Nat.reduceLT, Nat.reduceAdd, Int.reduceLT, Int.reduceLE, decide_false, decide_true, dec_true, dec_false, true_and, and_true, true_imp_iff, Bool.not_true, Bool.not_false, Option.map_none, Int.reduceToNat, Int.toNat_zero, Int.toNat_one, lkV_false, lkV_true, hm, Option.getD_none]
    rw [ha]
    have hSe := hSd.ext (Ext.rfl' W.drew).dr
    have hxe : W.drew.drew.heap[B]? = _ := hxb
    refine Dr_plan [] (upto 5) [0, 1, 2, 3, 4, 5] mixed (by kernel_rfl) ?_
    simp (disch := first | omega | assumption | (simp only [O1, World.size_alloc, World.size_setCell, World.size_drew]; first | done | omega)) only [↓D1, ↓D3, ↓D4, List.not_mem_nil, not_false_eq_true, Bool.false_eq_true, false_imp_iff, upto, O1, D2, ↓H0, S0, ↓S1, ↓S2, ↓S3, ↓S4, S5, S5b, S5c, ↓S6, S6b, M0, E0, ty, tl, te, tc, i64_wrap, u64_wrap, iaV_sl, iaV_arr, faV_pa, nck_pa, heap_new, heap_old, heap_set, ↓reduceIte, Nat.reduceEqDiff, Nat.reduceLT, Nat.reduceAdd, Int.reduceLT, Int.reduceLE, decide_false, decide_true, dec_true, dec_false, true_and, and_true, true_imp_iff, Bool.not_true, Bool.not_false, Option.map_none, Int.reduceToNat, Int.toNat_zero, Int.toNat_one, lkV_false, lkV_true, hS1.box, hxb, hSd.box, hxd, hSe.box, hxe, ldA3]
    refine RunU_map mp132 kTri hSe.map x (.bool true) ?_
    intro U hU hgU hsU
    have hBm : B ≠ m := by have := hS.map.lt; omega
    have hBS : B ≠ S := by have := lt_heap hS.box; omega
    have hxB : ∀ lv' : Value, lv'.ownBlock = lv.ownBlock → lv'.ownBlock ≠ some B := fun lv' e h => by rw [e] at h; have := (hS.row.lt B h).2; omega
    have hbU : U.heap[S]? = _ := (hgU.block S (lt_heap hSe.box) (by simpa using hS.sm)).trans hSe.box
    have hxU : U.heap[B]? = _ := (hgU.block B (lt_heap hxe) (by simpa using hBm)).trans hxe
    have hRU : Row3 base 138 U lv l := hSe.row.kept hgU (.inr hS.ml)
    rw [← memF_push] at hU
    have hGU : SetG w U S m lv lv := ((SetG.of_ext hx1).ext ((Ext.rfl' W).dr.dr)).tr ⟨Chg.grown hgU fun k hk => .inr (.inl (by simpa using hk.symm)), .inl rfl⟩
    simp (disch := first | omega | assumption | (simp only [O1, World.size_alloc, World.size_setCell, World.size_drew]; first | done | omega)) only [↓D1, ↓D3, ↓D4, List.not_mem_nil, not_false_eq_true, Bool.false_eq_true, false_imp_iff, upto, O1, D2, ↓H0, S0, ↓S1, ↓S2, ↓S3, ↓S4, S5, S5b, S5c, ↓S6, S6b, M0, E0, ty, tl, te, tc, i64_wrap, u64_wrap, iaV_sl, iaV_arr, faV_pa, nck_pa, heap_new, heap_old, heap_set, ↓reduceIte, Nat.reduceEqDiff, Nat.reduceLT, Nat.reduceAdd, Int.reduceLT, Int.reduceLE, decide_false, decide_true, dec_true, dec_false, true_and, and_true, true_imp_iff, Bool.not_true, Bool.not_false, Option.map_none, Int.reduceToNat, Int.toNat_zero, Int.toNat_one, lkV_false, lkV_true]
    have hbV : U.drew.heap[S]? = _ := hbU
    have hxV : U.drew.heap[B]? = _ := hxU
    have hRV := hRU.ext (Ext.rfl' U).dr
    have hUV := hU.ext (Ext.rfl' U).dr
    have hsV : base ≤ U.drew.heap.size := by have := hS.bs; have := lt_heap hbU; show base ≤ U.heap.size; omega
    have hSn : S ∉ lv.ownBlock.toList := by simpa [Option.mem_toList] using hS.sl
    have hBn : B ∉ lv.ownBlock.toList := by simpa [Option.mem_toList] using hxB lv rfl
    refine Dr_plan lv.ownBlock.toList (upto 10) [0, 1, 2, 3, 4, 5, 6, 7, 8, 9, 10] mixed (by kernel_rfl) ?_
    simp (disch := first | omega | assumption | (simp only [O1, World.size_alloc, World.size_setCell, World.size_drew]; first | done | omega)) only [↓D1, ↓D3, ↓D4, List.not_mem_nil, not_false_eq_true, Bool.false_eq_true, false_imp_iff, upto, O1, D2, ↓H0, S0, ↓S1, ↓S2, ↓S3, ↓S4, S5, S5b, S5c, ↓S6, S6b, M0, E0, ty, tl, te, tc, i64_wrap, u64_wrap, iaV_sl, iaV_arr, faV_pa, nck_pa, heap_new, heap_old, heap_set, ↓reduceIte, Nat.reduceEqDiff, Nat.reduceLT, Nat.reduceAdd, Int.reduceLT, Int.reduceLE, decide_false, decide_true, dec_true, dec_false, true_and, and_true, true_imp_iff, Bool.not_true, Bool.not_false, Option.map_none, Int.reduceToNat, Int.toNat_zero, Int.toNat_one, lkV_false, lkV_true, hbU, hxU, hbV, hxV, ldA3, bsl1_3 sl133, hSn, hBn]
    refine RunA_tri sl133 hRV (by omega) (by omega) hsV ?_
    intro v' Y hR' hown hg1 hg2
    have hK : Keep lv.ownBlock.toList (U.drew.alloc (.cells #[.int .i64 x.1, .int .i64 x.2.1, .int .i64 x.2.2] 138)) Y := Keep.of_grown hg2 fun g hg => by simp [Option.mem_toList, hg]
    have hbY : Y.heap[S]? = _ := (hg1.block S (lt_heap hbV) (fun e => hS.sl e.symm)).trans hbV
    have hmY : MapF triV Y m _ := hUV.hp (hg1.block m hUV.lt (fun e => hS.ml e.symm))
    have hst := sto_own (P := Try.prog) (T := 133) (w := Y) (g := S) (o := 0) (k := 0) (x := v') (by simp only [ty]) hbY (by simp) hR'.one
    simp (disch := first | omega | assumption | (simp only [O1, World.size_alloc, World.size_setCell, World.size_drew]; first | done | omega)) only [↓D1, ↓D3, ↓D4, List.not_mem_nil, not_false_eq_true, Bool.false_eq_true, false_imp_iff, upto, O1, D2, ↓H0, S0, ↓S1, ↓S2, ↓S3, ↓S4, S5, S5b, S5c, ↓S6, S6b, M0, E0, ty, tl, te, tc, i64_wrap, u64_wrap, iaV_sl, iaV_arr, faV_pa, nck_pa, heap_new, heap_old, heap_set, ↓reduceIte, Nat.reduceEqDiff, Nat.reduceLT, Nat.reduceAdd, Int.reduceLT, Int.reduceLE, decide_false, decide_true, dec_true, dec_false, true_and, and_true, true_imp_iff, Bool.not_true, Bool.not_false, Option.map_none, Int.reduceToNat, Int.toNat_zero, Int.toNat_one, lkV_false, lkV_true, hK, hst]
    have hSY : v'.ownBlock ≠ some S := hR'.ne hbY (by decide)
    have hrow : Row3 base 138 (Y.setCell ⟨S, 0, none⟩ v') v' (l ++ [x]) := hR'.kept (grown_set Y S 0 v') (.inr hSY)
    have hsm := hS.sm
    refine ⟨v', ⟨?_, hrow, hmY.hp (heap_set _ (Ne.symm hsm)), hS.bs, hS.bm⟩, ?_⟩
    · rw [heap_set_same, hbY]; rfl
    · refine (hGU.ext (Ext.rfl' U).dr).tr ⟨?_, ?_⟩
      · refine (Chg.grown (M := Mv S m lv) hg1 fun k hk => .inr (.inr hk)).tr (Chg.grown (M := Mv S m lv) (grown_set Y S 0 v') fun k hk => .inl (by simpa using hk.symm)) fun x hx hM => hM
      · exact hown
def tr (i d f : Nat) : Tri := ((i : Int), (d : Int), (f : Int))
/-- Block Q is a chart's. -/
structure ChR (w : World) (Q : Nat) (g : PG) (nv tv : Value) (C : Option Addr) (c : Nat) (wv bv lv sv : Value) (e : Bool) : Prop where
  box : w.heap[Q]? = some (.cells #[.int .i64 g.start, .int .i64 g.rules, nv, tv, .slice C g.prods.length c, wv, bv, lv, sv, .bool e] 130 (0, 0))
  prods : ∀ i (h : i < g.prods.length), rd w C (i * 2) = some (.int .i64 g.prods[i].1) ∧ ∃ r, rd w C (i * 2 + 1) = some r ∧ Ints w r g.prods[i].2
theorem ChR.ext {w w' : World} {Q : Nat} {g : PG} {nv tv : Value} {C : Option Addr} {c : Nat} {wv bv lv sv : Value} {e : Bool} (h : ChR w Q g nv tv C c wv bv lv sv e) (hx : Ext w w') : ChR w' Q g nv tv C c wv bv lv sv e :=
  ⟨hx.hp h.box, fun i hi => ⟨hx.rd (h.prods i hi).1, _, hx.rd (h.prods i hi).2.choose_spec.1, (h.prods i hi).2.choose_spec.2.ext hx⟩⟩
set_option maxHeartbeats 1000000 in
theorem next_ok (Q : Nat) (g : PG) (nv tv : Value) (C : Option Addr) (c : Nat) (wv bv lv sv : Value) (e : Bool) (i d f : Nat) (w : World) (hQ : ChR w Q g nv tv C c wv bv lv sv e) (hi : i < g.prods.length) (hd : d ≤ g.prods[i].2.length) (hS : SoundP g) :
    Ok Try.prog 102 #[pa (some ⟨Q, 0, none⟩) 0, triV (tr i d f)] w fun v w' => v = .tuple #[.int .i64 ((g.prods[i].2[d]?).getD 0), .bool (g.prods[i].2[d]?).isSome] ∧ Ext w w' := by
  have hpl := hS.2.1.2.2.1
  have hsl := hS.sides _ (List.getElem_mem hi)
  (refine Ok.enter Try.func102 rfl (by kernel_rfl) (Nat.le_of_ble_eq_true rfl) ?_; simp only [Try.f102, S7])
  simp (disch := first | omega | assumption | (simp only [O1, World.size_alloc, World.size_setCell, World.size_drew]; first | done | omega)) only [O1, D2, ↓H0, S0, ↓S1, ↓S2, ↓S3, ↓S4, S5, S5b, S5c, ↓S6, S6b, M0, E0, ty, tl, te, tc, i64_wrap, u64_wrap, iaV_sl, iaV_arr, faV_pa, nck_pa, heap_new, heap_old, heap_set, ↓reduceIte, Nat.reduceEqDiff, Nat.reduceLT, Nat.reduceAdd, Int.reduceLT, Int.reduceLE, decide_false, decide_true, dec_true, dec_false, true_and, and_true, true_imp_iff, Bool.not_true, Bool.not_false, Option.map_none, Int.reduceToNat, Int.toNat_zero, Int.toNat_one, lkV_false, lkV_true, triV, tr]
  have hx1 := (Ext.rfl' w).al (.cells #[.int .i64 i, .int .i64 d, .int .i64 f] 138)
  have hxb := heap_new (w := w) (.cells #[.int .i64 i, .int .i64 d, .int .i64 f] 138) rfl
  have hQ1 := hQ.ext hx1
  generalize w.alloc (.cells #[.int .i64 i, .int .i64 d, .int .i64 f] 138) = W at *
  obtain ⟨B, hB⟩ : ∃ B, B = w.heap.size := ⟨_, rfl⟩
  rw [← hB] at hxb ⊢
  have hQd := hQ1.ext (Ext.rfl' W).dr
  have hxd : W.drew.heap[B]? = _ := hxb
  obtain ⟨h1, r, h2, h3⟩ := hQ1.prods i hi
  have h2d := (Ext.rfl' W).dr.rd h2
  have hAs := rd_isSome h1
  obtain ⟨D, dc, rfl, hdc, hD⟩ := h3
  generalize g.prods[i].2 = ri at *
  refine Dr_plan [] (fun _ => true) [0, 1, 2, 3, 4, 5, 6, 7, 8, 9, 10] mixed (by kernel_rfl) ?_
  simp (disch := first | omega | assumption | (simp only [O1, World.size_alloc, World.size_setCell, World.size_drew]; first | done | omega)) only [↓D1, ↓D3, ↓D4, List.not_mem_nil, not_false_eq_true, Bool.false_eq_true, false_imp_iff, upto, O1, D2, ↓H0, S0, ↓S1, ↓S2, ↓S3, ↓S4, S5, S5b, S5c, ↓S6, S6b, M0, E0, ty, tl, te, tc, i64_wrap, u64_wrap, iaV_sl, iaV_arr, faV_pa, nck_pa, heap_new, heap_old, heap_set, ↓reduceIte, Nat.reduceEqDiff, Nat.reduceLT, Nat.reduceAdd, Int.reduceLT, Int.reduceLE, decide_false, decide_true, dec_true, dec_false, true_and, and_true, true_imp_iff, Bool.not_true, Bool.not_false, Option.map_none, Int.reduceToNat, Int.toNat_zero, Int.toNat_one, lkV_false, lkV_true, hQd.box, hxd, hQ1.box, hxb, h2, h2d]
  refine Br_if (fun q => ?_) (fun q' => ?_) <;> (try simp (disch := first | omega | assumption | (simp only [O1, World.size_alloc, World.size_setCell, World.size_drew]; first | done | omega)) only [O1, D2, ↓H0, S0, ↓S1, ↓S2, ↓S3, ↓S4, S5, S5b, S5c, ↓S6, S6b, M0, E0, ty, tl, te, tc, i64_wrap, u64_wrap, iaV_sl, iaV_arr, faV_pa, nck_pa, heap_new, heap_old, heap_set, ↓reduceIte, Nat.reduceEqDiff, Nat.reduceLT, Nat.reduceAdd, Int.reduceLT, Int.reduceLE, decide_false, decide_true, dec_true, dec_false, true_and, and_true, true_imp_iff, Bool.not_true, Bool.not_false, Option.map_none, Int.reduceToNat, Int.toNat_zero, Int.toNat_one, lkV_false, lkV_true, hxb, hxd])
  · have : ri[d]? = none := List.getElem?_eq_none (by omega)
    rw [this]
    exact ⟨rfl, hx1.dr⟩
  · have hdl : d < ri.length := by omega
    have h4 := (Ext.rfl' W).dr.rd (hD d hdl)
    have h4s := rd_isSome h4
    rw [List.getElem?_eq_getElem hdl]
    generalize ri[d] = y at *
    simp (disch := first | omega | assumption | (simp only [O1, World.size_alloc, World.size_setCell, World.size_drew]; first | done | omega)) only [O1, D2, ↓H0, S0, ↓S1, ↓S2, ↓S3, ↓S4, S5, S5b, S5c, ↓S6, S6b, M0, E0, ty, tl, te, tc, i64_wrap, u64_wrap, iaV_sl, iaV_arr, faV_pa, nck_pa, heap_new, heap_old, heap_set, ↓reduceIte, Nat.reduceEqDiff, Nat.reduceLT, Nat.reduceAdd, Int.reduceLT, Int.reduceLE, decide_false, decide_true, dec_true, dec_false, true_and, and_true, true_imp_iff, Bool.not_true, Bool.not_false, Option.map_none, Int.reduceToNat, Int.toNat_zero, Int.toNat_one, lkV_false, lkV_true, hxb, hxd, h4]
    exact ⟨rfl, hx1.dr⟩
theorem step_ok (i d f : Nat) (w : World) (hd : d < 1000000) :
    Ok Try.prog 138 #[triV (tr i d f)] w fun v w' => v = triV (tr i (d + 1) f) ∧ Ext w w' := by
  have e0 : (triV (tr i d f)).cells = #[.int .i64 i, .int .i64 d, .int .i64 f] := rfl
  (refine Ok.enter Try.func138 rfl (by kernel_rfl) (Nat.le_of_ble_eq_true rfl) ?_; simp only [Try.f138, S7])
  obtain ⟨W, hW⟩ : ∃ W, W = w.alloc (.cells #[.int .i64 i, .int .i64 d, .int .i64 f] 138) := ⟨_, rfl⟩
  have hx1 := (Ext.rfl' w).al (.cells #[.int .i64 i, .int .i64 d, .int .i64 f] 138)
  have hxb := heap_new (w := w) (.cells #[.int .i64 i, .int .i64 d, .int .i64 f] 138) rfl
  have hs : W.heap.size = w.heap.size + 1 := by rw [hW]; simp
  rw [← hW] at hx1 hxb
  have hst : ∀ d : Nat, stoT Try.prog 138 (W.alloc (.cells #[.int .i64 0, .int .i64 0, .int .i64 0] 138)) (pa (some ⟨w.heap.size + 1, 0, none⟩) 0) (.agg #[.int .i64 i, .int .i64 d, .int .i64 f]) = some (W.alloc (.cells #[.int .i64 i, .int .i64 d, .int .i64 f] 138)) := fun d => by rw [← hs]; exact st138 W _ _ _ rfl rfl rfl
  have hx2 := (Ext.rfl' W).al (.cells #[.int .i64 i, .int .i64 (d + 1 : Nat), .int .i64 f] 138)
  have hn2 : (W.alloc (.cells #[.int .i64 i, .int .i64 (d + 1 : Nat), .int .i64 f] 138)).heap[w.heap.size + 1]? = _ := heap_new _ hs.symm
  subst hW
  simp (disch := first | omega | assumption | (simp only [O1, World.size_alloc, World.size_setCell, World.size_drew]; first | done | omega)) only [O1, D2, ↓H0, S0, ↓S1, ↓S2, ↓S3, ↓S4, S5, S5b, S5c, ↓S6, S6b, M0, E0, ty, tl, te, tc, i64_wrap, u64_wrap, iaV_sl, iaV_arr, faV_pa, nck_pa, heap_new, heap_old, heap_set, ↓reduceIte, Nat.reduceEqDiff, Nat.reduceLT, Nat.reduceAdd, Int.reduceLT, Int.reduceLE, decide_false, decide_true, dec_true, dec_false, true_and, and_true, true_imp_iff, Bool.not_true, Bool.not_false, Option.map_none, Int.reduceToNat, Int.toNat_zero, Int.toNat_one, lkV_false, lkV_true, e0]
  simp (disch := first | omega | assumption | (simp only [O1, World.size_alloc, World.size_setCell, World.size_drew]; first | done | omega)) only [O1, D2, ↓H0, S0, ↓S1, ↓S2, ↓S3, ↓S4, S5, S5b, S5c, ↓S6, S6b, M0, E0, ty, tl, te, tc, i64_wrap, u64_wrap, iaV_sl, iaV_arr, faV_pa, nck_pa, heap_new, heap_old, heap_set, ↓reduceIte, Nat.reduceEqDiff, Nat.reduceLT, Nat.reduceAdd, Int.reduceLT, Int.reduceLE, decide_false, decide_true, dec_true, dec_false, true_and, and_true, true_imp_iff, Bool.not_true, Bool.not_false, Option.map_none, Int.reduceToNat, Int.toNat_zero, Int.toNat_one, lkV_false, lkV_true, hxb, bd138_0_1_2, hst, hn2, ldA3, triV, tr]
  exact hx1.tr hx2
theorem iclone_ok (v : Value) (l : List Tri) (w : World) (h : Tris w v l) (hn : l.length ≤ 1000000000) :
    Ok Try.prog 137 #[v] w fun u w' => Row3 w.heap.size 138 w' u l ∧ Ext w w' := by
  have h0 := h
  obtain ⟨A, c, rfl, hc, hA⟩ := h
  (refine Ok.enter Try.func137 rfl (by kernel_rfl) (Nat.le_of_ble_eq_true rfl) ?_; simp only [Try.f137, S7])
  simp (disch := first | omega | assumption | (simp only [O1, World.size_alloc, World.size_setCell, World.size_drew]; first | done | omega)) only [O1, D2, ↓H0, S0, ↓S1, ↓S2, ↓S3, ↓S4, S5, S5b, S5c, ↓S6, S6b, M0, E0, ty, tl, te, tc, i64_wrap, u64_wrap, iaV_sl, iaV_arr, faV_pa, nck_pa, heap_new, heap_old, heap_set, ↓reduceIte, Nat.reduceEqDiff, Nat.reduceLT, Nat.reduceAdd, Int.reduceLT, Int.reduceLE, decide_false, decide_true, dec_true, dec_false, true_and, and_true, true_imp_iff, Bool.not_true, Bool.not_false, Option.map_none, Int.reduceToNat, Int.toNat_zero, Int.toNat_one, lkV_false, lkV_true]
  cases A with
  | none =>
    have : l = [] := by
      cases l with
      | nil => rfl
      | cons x l => have := (hA 0 (by simp)).1; simp [rd] at this
    subst this
    simp (disch := first | omega | assumption | (simp only [O1, World.size_alloc, World.size_setCell, World.size_drew]; first | done | omega)) only [O1, D2, ↓H0, S0, ↓S1, ↓S2, ↓S3, ↓S4, S5, S5b, S5c, ↓S6, S6b, M0, E0, ty, tl, te, tc, i64_wrap, u64_wrap, iaV_sl, iaV_arr, faV_pa, nck_pa, heap_new, heap_old, heap_set, ↓reduceIte, Nat.reduceEqDiff, Nat.reduceLT, Nat.reduceAdd, Int.reduceLT, Int.reduceLE, decide_false, decide_true, dec_true, dec_false, true_and, and_true, true_imp_iff, Bool.not_true, Bool.not_false, Option.map_none, Int.reduceToNat, Int.toNat_zero, Int.toNat_one, lkV_false, lkV_true, Option.isNone]
    exact ⟨Row3.nil w, Ext.rfl' w⟩
  | some a =>
    simp (disch := first | omega | assumption | (simp only [O1, World.size_alloc, World.size_setCell, World.size_drew]; first | done | omega)) only [O1, D2, ↓H0, S0, ↓S1, ↓S2, ↓S3, ↓S4, S5, S5b, S5c, ↓S6, S6b, M0, E0, ty, tl, te, tc, i64_wrap, u64_wrap, iaV_sl, iaV_arr, faV_pa, nck_pa, heap_new, heap_old, heap_set, ↓reduceIte, Nat.reduceEqDiff, Nat.reduceLT, Nat.reduceAdd, Int.reduceLT, Int.reduceLE, decide_false, decide_true, dec_true, dec_false, true_and, and_true, true_imp_iff, Bool.not_true, Bool.not_false, Option.map_none, Int.reduceToNat, Int.toNat_zero, Int.toNat_one, lkV_false, lkV_true, Option.isNone, bsl0 sl133]
    have hx := (Ext.rfl' w).al (.cells #[] 138)
    have hR : Row3 w.heap.size 138 (w.alloc (.cells #[] 138)) (.slice (some ⟨w.heap.size, 0, none⟩) 0 0) [] := World.ownsRow_lit (e := 138) (size := 3) w #[] 0 (base := w.heap.size) (Nat.le_refl _) (by decide) rfl
    refine RunA_tris sl133 hR (fun i hi => ⟨hx.rd (hA i hi).1, hx.rd (hA i hi).2.1, hx.rd (hA i hi).2.2⟩) (by simp; omega) (by omega) (by simp) ?_
    intro u W hRu hv hg
    simp (disch := first | omega | assumption | (simp only [O1, World.size_alloc, World.size_setCell, World.size_drew]; first | done | omega)) only [O1, D2, ↓H0, S0, ↓S1, ↓S2, ↓S3, ↓S4, S5, S5b, S5c, ↓S6, S6b, M0, E0, ty, tl, te, tc, i64_wrap, u64_wrap, iaV_sl, iaV_arr, faV_pa, nck_pa, heap_new, heap_old, heap_set, ↓reduceIte, Nat.reduceEqDiff, Nat.reduceLT, Nat.reduceAdd, Int.reduceLT, Int.reduceLE, decide_false, decide_true, dec_true, dec_false, true_and, and_true, true_imp_iff, Bool.not_true, Bool.not_false, Option.map_none, Int.reduceToNat, Int.toNat_zero, Int.toNat_one, lkV_false, lkV_true]
    exact ⟨by simpa using hRu, hx.grown' hg (fun k hk => by cases hk; exact Nat.le_refl _)⟩
end Go.Proofs.Ytgioklmpnbnplaa
