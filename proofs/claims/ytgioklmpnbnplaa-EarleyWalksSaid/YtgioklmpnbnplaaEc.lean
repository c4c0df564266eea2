/- The walk of a chart's close. Conditions: none. -/
import Derived.Test.YtgioklmpnbnplaaEq
set_option linter.unusedSimpArgs false
set_option linter.unusedVariables false
set_option maxRecDepth 100000
namespace Go.Proofs.Ytgioklmpnbnplaa
open Go.V Go.RowKit

def encP (b : Nat) : Value := pa (some ⟨b, 0, none⟩) 0
/-- A finished set: its blocks lie below B. -/
def SetFin (B : Nat) (w : World) (b : Nat) (l : List Tri) : Prop := ∃ base m lv, SetR base w b m lv l ∧ ∀ k, Mv b m lv k → k < B
/-- What a chart's methods read. -/
structure Ctx (wE w : World) (g : PG) (Q : Nat) (nv tv : Value) (C : Option Addr) (c : Nat) (wv : Value) (G NG b0 bs : Nat) (ln : List Bool) (F : List (List Int)) (sv : Value) (Sb : List Nat) (e : Bool) : Prop where
  ext : Ext wE w
  box : w.heap[Q]? = some (.cells #[.int .i64 g.start, .int .i64 g.rules, nv, tv, .slice C g.prods.length c, wv, .slice (some ⟨G, 0, none⟩) F.length F.length, .slice (some ⟨NG, 0, none⟩) ln.length ln.length, sv, .bool e] 130 (0, 0))
  by_ : RowsO IV b0 3 23 w G F
  nul : Go.V.Own Value.bool 4 w NG ln
  sts : Row encP bs 131 w sv Sb
section
variable {wE w W : World} {g : PG} {Q : Nat} {nv tv : Value} {C : Option Addr} {c : Nat} {wv : Value} {G NG b0 bs : Nat} {ln : List Bool} {F : List (List Int)} {sv : Value} {Sb : List Nat} {e : Bool}
theorem Ctx.ext' (h : Ctx wE w g Q nv tv C c wv G NG b0 bs ln F sv Sb e) (hx : Ext w W) : Ctx wE W g Q nv tv C c wv G NG b0 bs ln F sv Sb e :=
  ⟨h.ext.tr hx, hx.hp h.box, h.by_.ext hx, h.nul.ext hx, h.sts.ext hx⟩
theorem Ctx.set {base S m : Nat} {lv lv' : Value} {l : List Tri} (h : Ctx wE w g Q nv tv C c wv G NG b0 bs ln F sv Sb e) (hS : SetR base w S m lv l) (hG : SetG w W S m lv lv') (hb : wE.heap.size ≤ base) : Ctx wE W g Q nv tv C c wv G NG b0 bs ln F sv Sb e := by
  refine ⟨h.ext.chg hG.chg fun x hx => by have := (hS.lt x hx).1; omega, hG.chg.hp h.box (hS.no h.box (by decide) (by decide)), h.by_.chg hG.chg fun k cs t f hM hq => ?_, ?_, h.sts.chg hG.chg fun k hk hM => ?_⟩
  · by_cases e1 : t = 3 ∨ t = 23
    · exact absurd hM (hS.no hq (by rcases e1 with rfl | rfl <;> decide) (by rcases e1 with rfl | rfl <;> decide))
    · exact ⟨fun e2 => e1 (.inl e2), fun e2 => e1 (.inr e2)⟩
  · exact h.nul.hp (hG.chg.block NG h.nul.lt (hS.no h.nul (by decide) (by decide)))
  · obtain ⟨cs, f, hq⟩ := h.sts.typed hk
    exact hS.no hq (by decide) (by decide) hM
theorem SetFin.ext {B b : Nat} {l : List Tri} (h : SetFin B w b l) (hx : Ext w W) : SetFin B W b l := by
  obtain ⟨base, m, lv, h1, h2⟩ := h
  exact ⟨base, m, lv, h1.ext hx, h2⟩
theorem SetFin.chg {B b : Nat} {l : List Tri} (h : SetFin B w b l) {M : Nat → Prop} (hc : Chg M w W) (hM : ∀ k, k < B → M k → ∃ cs t f, w.heap[k]? = some (.cells cs t f) ∧ t ≠ 135 ∧ t ≠ 138) : SetFin B W b l := by
  obtain ⟨base, m, lv, h1, h2⟩ := h
  have hno : ∀ k, Mv b m lv k → ¬ M k := fun k hk hm => by
    obtain ⟨cs, t, f, hq, h3, h4⟩ := hM k (h2 k hk) hm
    exact h1.no hq h3 h4 hk
  obtain ⟨es, cl, ⟨h3, h4⟩, h5⟩ := h1.map
  exact ⟨base, m, lv, ⟨hc.hp h1.box (hno b (.inl rfl)), h1.row.chg hc fun k hk => hno k (.inr (.inr hk)), ⟨es, cl, ⟨hc.hp h3 (hno m (.inr (.inl rfl))), h4⟩, h5⟩, h1.bs, h1.bm⟩, h2⟩
theorem SetFin.set {B b base S m : Nat} {lv lv' : Value} {l l0 : List Tri} (h : SetFin B w b l0) (hS : SetR base w S m lv l) (hB : B ≤ base) (hG : SetG w W S m lv lv') : SetFin B W b l0 :=
  h.chg hG.chg fun k hk hM => by have := (hS.lt k hM).1; omega
theorem SetFin.mono {B B' b : Nat} {l : List Tri} (h : SetFin B w b l) (hB : B ≤ B') : SetFin B' w b l := by
  obtain ⟨base, m, lv, h1, h2⟩ := h
  exact ⟨base, m, lv, h1, fun k hk => Nat.lt_of_lt_of_le (h2 k hk) hB⟩
end
theorem Ctx.row {wE W : World} {g : PG} {Q : Nat} {nv tv : Value} {C : Option Addr} {c : Nat} {wv : Value} {G NG b0 bs : Nat} {ln : List Bool} {F : List (List Int)} {sv : Value} {Sb : List Nat} {e : Bool} (h : Ctx wE W g Q nv tv C c wv G NG b0 bs ln F sv Sb e) {s : Nat} (hs : s < F.length) :
    ∃ RA rc, cellO (W.heap[G]?) s = some (.slice RA F[s].length rc) ∧ rd W (some ⟨G, 0, none⟩) s = some (.slice RA F[s].length rc) ∧ ∀ i (h : i < F[s].length), rd W RA i = some (.int .i64 F[s][i]) := by
  obtain ⟨GA, gc, he, _, hG⟩ := h.by_.rows
  simp only [sl] at he
  cases he
  obtain ⟨r, h1, RA, rc, rfl, _, h2⟩ := hG s hs
  refine ⟨RA, rc, ?_, h1, h2⟩
  rw [rd_own, Nat.zero_add] at h1; exact h1
/-- The productions by nonterminals. -/
def ByOk (ps : List (Int × List Int)) (n : Nat) (F : List (List Int)) : Prop := F.length = n ∧ ∀ (s : Nat) r, F[s]? = some r → r.length ≤ 256 ∧ ∀ j, j ∈ r ↔ ∃ (j' : Nat) (q : Int × List Int), j = j' ∧ ps[j']? = some q ∧ q.1 = s ∧ Usable ps q.2
set_option maxHeartbeats 4000000 in
theorem closeE_ok (wE w : World) (g : PG) (Q : Nat) (nv tv : Value) (C : Option Addr) (c : Nat) (wv : Value) (G NG b0 bs : Nat) (ln : List Bool) (F : List (List Int)) (sv : Value) (Sb : List Nat) (e : Bool) (word : List Int) (base S m at_ : Nat) (lv : Value) (l : List Tri) (L : List (List Tri))
    (hC : Ctx wE w g Q nv tv C c wv G NG b0 bs ln F sv Sb e) (hP : ∀ i (h : i < g.prods.length), rd wE C (i * 2) = some (.int .i64 g.prods[i].1) ∧ ∃ r, rd wE C (i * 2 + 1) = some r ∧ Ints wE r g.prods[i].2) (hSd : SoundP g)
    (hln : Tells g.names.length (Gen false g.prods) ln) (hF : ByOk g.prods g.names.length F) (hwl : word.length ≤ 64) (hat : at_ ≤ word.length) (hL : L.length = at_) (hSb : Sb.length = at_ + 1) (hSk : Sb[at_]? = some S)
    (hfin : ∀ (f b : Nat) (lf : List Tri), Sb[f]? = some b → L[f]? = some lf → SetFin base w b lf) (hLs : ∀ f, f < at_ → ∃ lf, L[f]? = some lf ∧ SetOk g.prods g.start word f lf ∧ lf.Nodup)
    (hS : SetR base w S m lv l) (hbE : wE.heap.size ≤ base) (hbw : base ≤ w.heap.size) (hI : ClI g.prods g.start word at_ L l 0) (hB : Base g.prods g.start word at_ L l) :
    Ok Try.prog 97 #[pa (some ⟨Q, 0, none⟩) 0, pa (some ⟨S, 0, none⟩) 0, .int .i64 at_] w fun v w' => ∃ lv' l', SetR base w' S m lv' l' ∧ SetG w w' S m lv lv' ∧ SetOk g.prods g.start word at_ l' ∧ l'.Nodup ∧ (∀ x ∈ l, x ∈ l') := by
  have hin := hSd.inR
  have hlef : Lefts g.prods := fun p hp => (hin p hp).1.1
  have hpl := hSd.2.1.2.2.1
  have hnl := hSd.1.2.1
  have hfew : ∀ {l : List Tri} {n : Nat}, ClI g.prods g.start word at_ L l n → l.length ≤ 512000 := fun {l n} h => items_few hlef hpl hSd.sides hwl h.snd h.nd
  (refine Ok.enter Try.func97 rfl (by kernel_rfl) (Nat.le_of_ble_eq_true rfl) ?_; simp only [Try.f97, S7])
  simp (disch := first | omega | assumption | (simp only [O1, World.size_alloc, World.size_setCell, World.size_drew]; first | done | omega)) only [O1, D2, ↓H0, S0, ↓S1, ↓S2, ↓S3, ↓S4, S5, S5b, S5c, ↓S6, S6b, M0, E0, ty, tl, te, tc, i64_wrap, u64_wrap, iaV_sl, iaV_arr, faV_pa, nck_pa, heap_new, heap_old, heap_set, ↓reduceIte, Nat.reduceEqDiff, Nat.reduceLT, Nat.reduceAdd, Int.reduceLT, Int.reduceLE, decide_false, decide_true, dec_true, dec_false, true_and, and_true, true_imp_iff, Bool.not_true, Bool.not_false, Option.map_none, Int.reduceToNat, Int.toNat_zero, Int.toNat_one, lkV_false, lkV_true]
  refine ⟨fun k t W => ∃ (n : Nat) (lvW : Value) (l' : List Tri), k + n = 600000 ∧ SetR base W S m lvW l' ∧ SetG w W S m lv lvW ∧ ClI g.prods g.start word at_ L l' n ∧ (Base g.prods g.start word at_ L l' ∧ ∀ x ∈ l, x ∈ l') ∧ t 0 = pa (some ⟨Q, 0, none⟩) 0 ∧ t 1 = pa (some ⟨S, 0, none⟩) 0 ∧ t 2 = .int .i64 at_ ∧ t 6 = .int .i64 n,
    ⟨600000, 0, lv, l, rfl, hS, SetG.refl _ _ _ _, hI, ⟨hB, fun x h => h⟩, ?_⟩, ?_⟩
  · simp (disch := first | omega | assumption | (simp only [O1, World.size_alloc, World.size_setCell, World.size_drew]; first | done | omega)) only [O1, D2, ↓H0, S0, ↓S1, ↓S2, ↓S3, ↓S4, S5, S5b, S5c, ↓S6, S6b, M0, E0, ty, tl, te, tc, i64_wrap, u64_wrap, iaV_sl, iaV_arr, faV_pa, nck_pa, heap_new, heap_old, heap_set, ↓reduceIte, Nat.reduceEqDiff, Nat.reduceLT, Nat.reduceAdd, Int.reduceLT, Int.reduceLE, decide_false, decide_true, dec_true, dec_false, true_and, and_true, true_imp_iff, Bool.not_true, Bool.not_false, Option.map_none, Int.reduceToNat, Int.toNat_zero, Int.toNat_one, lkV_false, lkV_true] <;> rfl
  rintro k t W ⟨n, lvW, l', hk, hSW, hGW, hIW, ⟨hBW, hsub⟩, f0, f1, f2, f6⟩
  have hCW := hC.set hS hGW hbE
  have hlen := hfew hIW
  have hnle := hIW.le
  obtain ⟨A, ac, rfl, hac, hA⟩ := hSW.row.tris
  have hbox := hSW.box
  simp (disch := first | omega | assumption | (simp only [O1, World.size_alloc, World.size_setCell, World.size_drew]; first | done | omega)) only [O1, D2, ↓H0, S0, ↓S1, ↓S2, ↓S3, ↓S4, S5, S5b, S5c, ↓S6, S6b, M0, E0, ty, tl, te, tc, i64_wrap, u64_wrap, iaV_sl, iaV_arr, faV_pa, nck_pa, heap_new, heap_old, heap_set, ↓reduceIte, Nat.reduceEqDiff, Nat.reduceLT, Nat.reduceAdd, Int.reduceLT, Int.reduceLE, decide_false, decide_true, dec_true, dec_false, true_and, and_true, true_imp_iff, Bool.not_true, Bool.not_false, Option.map_none, Int.reduceToNat, Int.toNat_zero, Int.toNat_one, lkV_false, lkV_true, f0, f1, f2, f6, hbox]
  refine Br_if (fun h => ?_) (fun h' => ?_) <;> (try simp (disch := first | omega | assumption | (simp only [O1, World.size_alloc, World.size_setCell, World.size_drew]; first | done | omega)) only [O1, D2, ↓H0, S0, ↓S1, ↓S2, ↓S3, ↓S4, S5, S5b, S5c, ↓S6, S6b, M0, E0, ty, tl, te, tc, i64_wrap, u64_wrap, iaV_sl, iaV_arr, faV_pa, nck_pa, heap_new, heap_old, heap_set, ↓reduceIte, Nat.reduceEqDiff, Nat.reduceLT, Nat.reduceAdd, Int.reduceLT, Int.reduceLE, decide_false, decide_true, dec_true, dec_false, true_and, and_true, true_imp_iff, Bool.not_true, Bool.not_false, Option.map_none, Int.reduceToNat, Int.toNat_zero, Int.toNat_one, lkV_false, lkV_true, f0, f1, f2, f6, hbox])
  · have hn : n < l'.length := by omega
    obtain ⟨i, d, f, hx, hIt⟩ := hIW.snd _ (List.getElem_mem hn)
    obtain ⟨a1, a2, a3⟩ := hA n hn
    rw [hx] at a1 a2 a3
    simp only [tr] at a1 a2 a3
    have hAs := rd_isSome a1
    obtain ⟨p, hp⟩ := hIt.snd hlef
    obtain ⟨hi, hpe⟩ := List.getElem?_eq_some_iff.1 hp.at_
    simp (disch := first | omega | assumption | (simp only [O1, World.size_alloc, World.size_setCell, World.size_drew]; first | done | omega)) only [O1, D2, ↓H0, S0, ↓S1, ↓S2, ↓S3, ↓S4, S5, S5b, S5c, ↓S6, S6b, M0, E0, ty, tl, te, tc, i64_wrap, u64_wrap, iaV_sl, iaV_arr, faV_pa, nck_pa, heap_new, heap_old, heap_set, ↓reduceIte, Nat.reduceEqDiff, Nat.reduceLT, Nat.reduceAdd, Int.reduceLT, Int.reduceLE, decide_false, decide_true, dec_true, dec_false, true_and, and_true, true_imp_iff, Bool.not_true, Bool.not_false, Option.map_none, Int.reduceToNat, Int.toNat_zero, Int.toNat_one, lkV_false, lkV_true, f0, f1, f2, f6, hbox, a1, a2, a3, ldA3, st138]
    have hx1 := (Ext.rfl' W).al (.cells #[.int .i64 i, .int .i64 d, .int .i64 f] 138)
    have hxb := heap_new (w := W) (.cells #[.int .i64 i, .int .i64 d, .int .i64 f] 138) rfl
    generalize W.alloc (.cells #[.int .i64 i, .int .i64 d, .int .i64 f] 138) = W1 at *
    obtain ⟨B, hB⟩ : ∃ B, B = W.heap.size := ⟨_, rfl⟩
    rw [← hB] at hxb ⊢
    have hCh : ChR W1 Q g nv tv C c wv (.slice (some ⟨G, 0, none⟩) F.length F.length) (.slice (some ⟨NG, 0, none⟩) ln.length ln.length) sv e := ⟨(hCW.ext' hx1).box, fun i hi => ⟨(hCW.ext.tr hx1).rd (hP i hi).1, _, (hCW.ext.tr hx1).rd (hP i hi).2.choose_spec.1, (hP i hi).2.choose_spec.2.ext (hCW.ext.tr hx1)⟩⟩
    refine (next_ok Q g nv tv C c wv _ _ sv e i d f W1 hCh hi (by rw [hpe]; exact hp.dl) hSd).then ?_
    rintro _ W2 ⟨rfl, hx2⟩
    have hx12 := hx1.tr hx2
    have hSW2 := hSW.ext hx12
    have hCW2 := hCW.ext' hx12
    have hGW2 := hGW.ext hx12
    have hxb2 := hx2.hp hxb
    rw [hpe]
    have hxi := hx
    have fin : ∀ (l2 : List Tri) (hI2 : ClI g.prods g.start word at_ L l2 n) (hpre : ∃ r, l2 = l' ++ r) (hc : Cl1 g.prods at_ L l2 i d f p), ClI g.prods g.start word at_ L l2 (n + 1) := fun l2 hI2 ⟨r, hr⟩ hc => by
      subst hr
      exact hI2.next (by simp; omega) (by rw [List.getElem_append_left hn]; exact hx) fun p' hp' => by have := hp.at_; rw [this] at hp'; cases hp'; exact hc
    cases hnx : p.2[d]? with
    | none =>
      simp (disch := first | omega | assumption | (simp only [O1, World.size_alloc, World.size_setCell, World.size_drew]; first | done | omega)) only [O1, D2, ↓H0, S0, ↓S1, ↓S2, ↓S3, ↓S4, S5, S5b, S5c, ↓S6, S6b, M0, E0, ty, tl, te, tc, i64_wrap, u64_wrap, iaV_sl, iaV_arr, faV_pa, nck_pa, heap_new, heap_old, heap_set, ↓reduceIte, Nat.reduceEqDiff, Nat.reduceLT, Nat.reduceAdd, Int.reduceLT, Int.reduceLE, decide_false, decide_true, dec_true, dec_false, true_and, and_true, true_imp_iff, Bool.not_true, Bool.not_false, Option.map_none, Int.reduceToNat, Int.toNat_zero, Int.toNat_one, lkV_false, lkV_true, f0, f1, f2, f6, Option.isSome_none, Option.getD_none]
      have hdl : d = p.2.length := by have := List.getElem?_eq_none_iff.1 hnx; have := hp.dl; omega
      have hfa := hp.fk
      have hfS : f < Sb.length := by omega
      obtain ⟨SA, sc, hsv, hsc, hSA⟩ := hCW2.sts.sq
      have hbox2 := hCW2.box
      have q1 := hSA f hfS
      obtain ⟨lvf, mf, lf, hbf, hTf, hLf, hff, hItf⟩ : ∃ lvf mf lf, W2.heap[Sb[f]]? = some (.cells #[lvf, .map (some mf)] 135 (0, 0)) ∧ Tris W2 lvf lf ∧ (f < at_ → L[f]? = some lf) ∧ lf.length ≤ 512000 ∧ ∀ x ∈ lf, ∃ i d f', x = tr i d f' ∧ It g.prods g.start word f i d f' := by
        rcases Nat.lt_or_ge f at_ with hf | hf
        · obtain ⟨lf, h1, h2, h2n⟩ := hLs f hf
          have hfn := (((hfin f Sb[f] lf (List.getElem?_eq_getElem hfS) h1).set hS (Nat.le_refl _) hGW).ext hx12)
          obtain ⟨base', mf, lvf, h3, h4⟩ := hfn
          refine ⟨lvf, mf, lf, h3.box, h3.row.tris, fun _ => h1, items_few hlef hpl hSd.sides hwl (fun x => (h2 x).1) h2n, fun x => (h2 x).1⟩
        · have e1 : f = at_ := by omega
          subst e1
          have e2 : Sb[f] = S := by have := List.getElem?_eq_getElem hfS; rw [hSk] at this; cases this; rfl
          rw [e2]
          exact ⟨_, _, l', hSW2.box, hSW2.row.tris, fun h => by omega, hlen, hIW.snd⟩
      generalize Sb[f] = Bf at *
      obtain ⟨FA, fc, rfl, hfc, hFA⟩ := hTf
      have q1s := rd_isSome q1
      simp only [encP] at q1
      rw [hsv] at hbox2
      have hbox2d : W2.drew.heap[Q]? = _ := hbox2
      have hxb2d : W2.drew.heap[B]? = _ := hxb2
      have hbfd : W2.drew.heap[Bf]? = _ := hbf
      have q1d := (Ext.rfl' W2).dr.rd q1
      refine Dr_plan [] (fun _ => true) [0, 1, 2, 3, 4, 5, 6, 7, 8, 9, 10, 13, 11, 12] mixed (by kernel_rfl) ?_
      simp (disch := first | omega | assumption | (simp only [O1, World.size_alloc, World.size_setCell, World.size_drew]; first | done | omega)) only [↓D1, ↓D3, ↓D4, List.not_mem_nil, not_false_eq_true, Bool.false_eq_true, false_imp_iff, upto, O1, D2, ↓H0, S0, ↓S1, ↓S2, ↓S3, ↓S4, S5, S5b, S5c, ↓S6, S6b, M0, E0, ty, tl, te, tc, i64_wrap, u64_wrap, iaV_sl, iaV_arr, faV_pa, nck_pa, heap_new, heap_old, heap_set, ↓reduceIte, Nat.reduceEqDiff, Nat.reduceLT, Nat.reduceAdd, Int.reduceLT, Int.reduceLE, decide_false, decide_true, dec_true, dec_false, true_and, and_true, true_imp_iff, Bool.not_true, Bool.not_false, Option.map_none, Int.reduceToNat, Int.toNat_zero, Int.toNat_one, lkV_false, lkV_true, f0, f1, f2, f6, hbox2, hbox2d, hxb2, hxb2d, q1, q1d, hbf, hbfd]
      refine (iclone_ok _ lf _ ⟨FA, fc, rfl, hfc, fun i hi => ⟨(Ext.rfl' W2).dr.rd (hFA i hi).1, (Ext.rfl' W2).dr.rd (hFA i hi).2.1, (Ext.rfl' W2).dr.rd (hFA i hi).2.2⟩⟩ (by omega)).then ?_
      rintro u W3 ⟨hRu, hx3⟩
      have hK3 := Keep.of_ext hx3 []
      have hx23 := ((Ext.rfl' W2).dr).tr hx3
      have hSW3 := hSW2.ext hx23
      have hCW3 := hCW2.ext' hx23
      have hxb3 := hx23.hp hxb2
      have hbu : ∀ b, u.ownBlock = some b → ¬ Mv S m (.slice A l'.length ac) b := fun b hb hM => by
        have h1 := (hRu.lt b hb).1
        have h2 := (hSW2.lt b hM).2
        have h3 : W2.drew.heap.size = W2.heap.size := rfl
        omega
      obtain ⟨UA, uc, hu, huc, hUA⟩ := hRu.tris
      subst hu
      simp (disch := first | omega | assumption | (simp only [O1, World.size_alloc, World.size_setCell, World.size_drew]; first | done | omega)) only [↓D1, ↓D3, ↓D4, List.not_mem_nil, not_false_eq_true, Bool.false_eq_true, false_imp_iff, upto, O1, D2, ↓H0, S0, ↓S1, ↓S2, ↓S3, ↓S4, S5, S5b, S5c, ↓S6, S6b, M0, E0, ty, tl, te, tc, i64_wrap, u64_wrap, iaV_sl, iaV_arr, faV_pa, nck_pa, heap_new, heap_old, heap_set, ↓reduceIte, Nat.reduceEqDiff, Nat.reduceLT, Nat.reduceAdd, Int.reduceLT, Int.reduceLE, decide_false, decide_true, dec_true, dec_false, true_and, and_true, true_imp_iff, Bool.not_true, Bool.not_false, Option.map_none, Int.reduceToNat, Int.toNat_zero, Int.toNat_one, lkV_false, lkV_true, hK3]
      refine ⟨fun k3 t V => ∃ (j : Nat) (lv2 : Value) (l2 : List Tri), k3 + j = lf.length ∧ SetR base V S m lv2 l2 ∧ SetG W3 V S m (.slice A l'.length ac) lv2 ∧ ClI g.prods g.start word at_ L l2 n ∧ (∃ r, l2 = l' ++ r) ∧
        (∀ jx, jx < j → ∀ x, lf[jx]? = some x → ∀ j d' f' q, x = tr j d' f' → g.prods[j]? = some q → q.2[d']? = some p.1 → tr j (d' + 1) f' ∈ l2) ∧
        t 0 = pa (some ⟨Q, 0, none⟩) 0 ∧ t 1 = pa (some ⟨S, 0, none⟩) 0 ∧ t 2 = .int .i64 at_ ∧ t 6 = .int .i64 n ∧ t 7 = pa (some ⟨B, 0, none⟩) 0 ∧ t 52 = .slice UA lf.length uc ∧ t 53 = .int .i64 lf.length ∧ t 54 = .int .i64 j,
        ⟨lf.length, 0, _, l', rfl, hSW3, SetG.refl _ _ _ _, hIW, ⟨[], by simp⟩, fun jx h => by omega, ?_⟩, ?_⟩
      · simp (disch := first | omega | assumption | (simp only [O1, World.size_alloc, World.size_setCell, World.size_drew]; first | done | omega)) only [O1, D2, ↓H0, S0, ↓S1, ↓S2, ↓S3, ↓S4, S5, S5b, S5c, ↓S6, S6b, M0, E0, ty, tl, te, tc, i64_wrap, u64_wrap, iaV_sl, iaV_arr, faV_pa, nck_pa, heap_new, heap_old, heap_set, ↓reduceIte, Nat.reduceEqDiff, Nat.reduceLT, Nat.reduceAdd, Int.reduceLT, Int.reduceLE, decide_false, decide_true, dec_true, dec_false, true_and, and_true, true_imp_iff, Bool.not_true, Bool.not_false, Option.map_none, Int.reduceToNat, Int.toNat_zero, Int.toNat_one, lkV_false, lkV_true, f0, f1, f2, f6] <;> rfl
      clear f0 f1 f2 f6
      rintro k3 t V ⟨j, lv2, l2, hk3, hSV, hGV, hIV, ⟨r2, hr2⟩, hcj, f0, f1, f2, f6, f7, f52, f53, f54⟩
      simp (disch := first | omega | assumption | (simp only [O1, World.size_alloc, World.size_setCell, World.size_drew]; first | done | omega)) only [O1, D2, ↓H0, S0, ↓S1, ↓S2, ↓S3, ↓S4, S5, S5b, S5c, ↓S6, S6b, M0, E0, ty, tl, te, tc, i64_wrap, u64_wrap, iaV_sl, iaV_arr, faV_pa, nck_pa, heap_new, heap_old, heap_set, ↓reduceIte, Nat.reduceEqDiff, Nat.reduceLT, Nat.reduceAdd, Int.reduceLT, Int.reduceLE, decide_false, decide_true, dec_true, dec_false, true_and, and_true, true_imp_iff, Bool.not_true, Bool.not_false, Option.map_none, Int.reduceToNat, Int.toNat_zero, Int.toNat_one, lkV_false, lkV_true, f0, f1, f2, f6, f7, f52, f53, f54]
      refine Br_if (fun h5 => ?_) (fun h5' => ?_) <;> (try simp (disch := first | omega | assumption | (simp only [O1, World.size_alloc, World.size_setCell, World.size_drew]; first | done | omega)) only [O1, D2, ↓H0, S0, ↓S1, ↓S2, ↓S3, ↓S4, S5, S5b, S5c, ↓S6, S6b, M0, E0, ty, tl, te, tc, i64_wrap, u64_wrap, iaV_sl, iaV_arr, faV_pa, nck_pa, heap_new, heap_old, heap_set, ↓reduceIte, Nat.reduceEqDiff, Nat.reduceLT, Nat.reduceAdd, Int.reduceLT, Int.reduceLE, decide_false, decide_true, dec_true, dec_false, true_and, and_true, true_imp_iff, Bool.not_true, Bool.not_false, Option.map_none, Int.reduceToNat, Int.toNat_zero, Int.toNat_one, lkV_false, lkV_true, f0, f1, f2, f6, f7, f52, f53, f54])
      · have hj : j < lf.length := by omega
        obtain ⟨j', d', f', hy, hIty⟩ := hItf _ (List.getElem_mem hj)
        obtain ⟨A2, c2, he2, _, hA2⟩ := (hRu.chg hGV.chg hbu).tris
        cases he2
        obtain ⟨b1, b2, b3⟩ := hA2 j hj
        rw [hy] at b1 b2 b3
        simp only [tr] at b1 b2 b3
        have hBs := rd_isSome b1
        obtain ⟨q, hq⟩ := hIty.snd hlef
        obtain ⟨hji, hqe⟩ := List.getElem?_eq_some_iff.1 hq.at_
        have hCV := hCW3.set hSW3 hGV hbE
        have hxbV : V.heap[B]? = _ := (hGV.chg.block B (lt_heap hxb3) (fun hM => by have := (hSW.lt B hM).2; omega)).trans hxb3
        simp (disch := first | omega | assumption | (simp only [O1, World.size_alloc, World.size_setCell, World.size_drew]; first | done | omega)) only [O1, D2, ↓H0, S0, ↓S1, ↓S2, ↓S3, ↓S4, S5, S5b, S5c, ↓S6, S6b, M0, E0, ty, tl, te, tc, i64_wrap, u64_wrap, iaV_sl, iaV_arr, faV_pa, nck_pa, heap_new, heap_old, heap_set, ↓reduceIte, Nat.reduceEqDiff, Nat.reduceLT, Nat.reduceAdd, Int.reduceLT, Int.reduceLE, decide_false, decide_true, dec_true, dec_false, true_and, and_true, true_imp_iff, Bool.not_true, Bool.not_false, Option.map_none, Int.reduceToNat, Int.toNat_zero, Int.toNat_one, lkV_false, lkV_true, f0, f1, f2, f6, f7, f52, f53, f54, b1, b2, b3, ldA3, st138]
        have hy1 := (Ext.rfl' V).al (.cells #[.int .i64 j', .int .i64 d', .int .i64 f'] 138)
        have hyb := heap_new (w := V) (.cells #[.int .i64 j', .int .i64 d', .int .i64 f'] 138) rfl
        generalize V.alloc (.cells #[.int .i64 j', .int .i64 d', .int .i64 f'] 138) = V1 at *
        obtain ⟨B2, hB2⟩ : ∃ B2, B2 = V.heap.size := ⟨_, rfl⟩
        rw [← hB2] at hyb ⊢
        have hCV1 := hCV.ext' hy1
        have hChV : ChR V1 Q g nv tv C c wv (.slice (some ⟨G, 0, none⟩) F.length F.length) (.slice (some ⟨NG, 0, none⟩) ln.length ln.length) sv e := ⟨hCV1.box, fun i hi => ⟨hCV1.ext.rd (hP i hi).1, _, hCV1.ext.rd (hP i hi).2.choose_spec.1, (hP i hi).2.choose_spec.2.ext hCV1.ext⟩⟩
        refine (next_ok Q g nv tv C c wv _ _ sv e j' d' f' V1 hChV hji (by rw [hqe]; exact hq.dl) hSd).then ?_
        rintro _ V2 ⟨rfl, hy2⟩
        have hy12 := hy1.tr hy2
        have hSV2 := hSV.ext hy12
        have hGV2 := hGV.ext hy12
        have hyb2 := hy2.hp hyb
        have hCV2 := hCV.ext' hy12
        have hxbV2 := hy12.hp hxbV
        rw [hqe]
        have hstep : ∀ (l3 : List Tri), (∃ r, l3 = l2 ++ r) → (q.2[d']? = some p.1 → tr j' (d' + 1) f' ∈ l3) → ∀ jx, jx < j + 1 → ∀ x, lf[jx]? = some x → ∀ j d' f' q, x = tr j d' f' → g.prods[j]? = some q → q.2[d']? = some p.1 → tr j (d' + 1) f' ∈ l3 := by
          rintro l3 ⟨r, rfl⟩ hl3 jx hjx x hx jj dd ff qq rfl hqq hss
          by_cases e : jx = j
          · subst e
            rw [List.getElem?_eq_getElem hj, hy] at hx
            simp only [Option.some.injEq] at hx
            obtain ⟨rfl, rfl, rfl⟩ := tr_inj hx
            have := hq.at_
            rw [this] at hqq; cases hqq
            exact hl3 hss
          · exact List.mem_append_left _ (hcj jx (by omega) _ hx jj dd ff qq rfl hqq hss)
        obtain ⟨w1, ⟨rv, w2, _⟩⟩ := hP i hi
        rw [hpe] at w1
        have w1V := hCV2.ext.rd w1
        have w1s := rd_isSome w1
        have w1d := (Ext.rfl' V2).dr.rd w1V
        have hboxV := hCV2.box
        have hboxVd : V2.drew.heap[Q]? = _ := hboxV
        have hxbVd : V2.drew.heap[B]? = _ := hxbV2
        cases hnq : q.2[d']? with
        | none =>
          simp (disch := first | omega | assumption | (simp only [O1, World.size_alloc, World.size_setCell, World.size_drew]; first | done | omega)) only [O1, D2, ↓H0, S0, ↓S1, ↓S2, ↓S3, ↓S4, S5, S5b, S5c, ↓S6, S6b, M0, E0, ty, tl, te, tc, i64_wrap, u64_wrap, iaV_sl, iaV_arr, faV_pa, nck_pa, heap_new, heap_old, heap_set, ↓reduceIte, Nat.reduceEqDiff, Nat.reduceLT, Nat.reduceAdd, Int.reduceLT, Int.reduceLE, decide_false, decide_true, dec_true, dec_false, true_and, and_true, true_imp_iff, Bool.not_true, Bool.not_false, Option.map_none, Int.reduceToNat, Int.toNat_zero, Int.toNat_one, lkV_false, lkV_true, f0, f1, f2, f6, f7, f52, f53, f54, Option.isSome_none, Option.getD_none]
          refine Dr_plan [] (fun _ => true) [0, 1, 2, 3, 4, 5, 6, 7, 8, 9, 10, 11, 12, 13, 14] mixed (by kernel_rfl) ?_
          simp (disch := first | omega | assumption | (simp only [O1, World.size_alloc, World.size_setCell, World.size_drew]; first | done | omega)) only [↓D1, ↓D3, ↓D4, List.not_mem_nil, not_false_eq_true, Bool.false_eq_true, false_imp_iff, upto, O1, D2, ↓H0, S0, ↓S1, ↓S2, ↓S3, ↓S4, S5, S5b, S5c, ↓S6, S6b, M0, E0, ty, tl, te, tc, i64_wrap, u64_wrap, iaV_sl, iaV_arr, faV_pa, nck_pa, heap_new, heap_old, heap_set, ↓reduceIte, Nat.reduceEqDiff, Nat.reduceLT, Nat.reduceAdd, Int.reduceLT, Int.reduceLE, decide_false, decide_true, dec_true, dec_false, true_and, and_true, true_imp_iff, Bool.not_true, Bool.not_false, Option.map_none, Int.reduceToNat, Int.toNat_zero, Int.toNat_one, lkV_false, lkV_true, f0, f1, f2, f6, f7, f52, f53, f54, hboxV, hboxVd, hxbV2, hxbVd, w1V, w1d]
          exact ⟨k3 - 1, by omega, j + 1, lv2, l2, by omega, hSV2.ext (Ext.rfl' V2).dr, hGV2.ext (Ext.rfl' V2).dr, hIV, ⟨r2, hr2⟩, hstep l2 ⟨[], by simp⟩ (fun hh => by rw [hnq] at hh; cases hh), rfl⟩
        | some s2 =>
          simp (disch := first | omega | assumption | (simp only [O1, World.size_alloc, World.size_setCell, World.size_drew]; first | done | omega)) only [O1, D2, ↓H0, S0, ↓S1, ↓S2, ↓S3, ↓S4, S5, S5b, S5c, ↓S6, S6b, M0, E0, ty, tl, te, tc, i64_wrap, u64_wrap, iaV_sl, iaV_arr, faV_pa, nck_pa, heap_new, heap_old, heap_set, ↓reduceIte, Nat.reduceEqDiff, Nat.reduceLT, Nat.reduceAdd, Int.reduceLT, Int.reduceLE, decide_false, decide_true, dec_true, dec_false, true_and, and_true, true_imp_iff, Bool.not_true, Bool.not_false, Option.map_none, Int.reduceToNat, Int.toNat_zero, Int.toNat_one, lkV_false, lkV_true, f0, f1, f2, f6, f7, f52, f53, f54, Option.isSome_some, Option.getD_some]
          refine Dr_plan [] (fun _ => true) [0, 1, 2, 3, 4, 5, 6, 7, 8, 9, 10, 11, 12, 13, 14] mixed (by kernel_rfl) ?_
          simp (disch := first | omega | assumption | (simp only [O1, World.size_alloc, World.size_setCell, World.size_drew]; first | done | omega)) only [↓D1, ↓D3, ↓D4, List.not_mem_nil, not_false_eq_true, Bool.false_eq_true, false_imp_iff, upto, O1, D2, ↓H0, S0, ↓S1, ↓S2, ↓S3, ↓S4, S5, S5b, S5c, ↓S6, S6b, M0, E0, ty, tl, te, tc, i64_wrap, u64_wrap, iaV_sl, iaV_arr, faV_pa, nck_pa, heap_new, heap_old, heap_set, ↓reduceIte, Nat.reduceEqDiff, Nat.reduceLT, Nat.reduceAdd, Int.reduceLT, Int.reduceLE, decide_false, decide_true, dec_true, dec_false, true_and, and_true, true_imp_iff, Bool.not_true, Bool.not_false, Option.map_none, Int.reduceToNat, Int.toNat_zero, Int.toNat_one, lkV_false, lkV_true, f0, f1, f2, f6, f7, f52, f53, f54, hboxV, hboxVd, hxbV2, hxbVd, w1V, w1d]
          have hyb2d : V2.drew.heap[B2]? = _ := hyb2
          refine Br_if (fun e5 => ?_) (fun e5' => ?_) <;> (try simp (disch := first | omega | assumption | (simp only [O1, World.size_alloc, World.size_setCell, World.size_drew]; first | done | omega)) only [↓D1, ↓D3, ↓D4, List.not_mem_nil, not_false_eq_true, Bool.false_eq_true, false_imp_iff, upto, O1, D2, ↓H0, S0, ↓S1, ↓S2, ↓S3, ↓S4, S5, S5b, S5c, ↓S6, S6b, M0, E0, ty, tl, te, tc, i64_wrap, u64_wrap, iaV_sl, iaV_arr, faV_pa, nck_pa, heap_new, heap_old, heap_set, ↓reduceIte, Nat.reduceEqDiff, Nat.reduceLT, Nat.reduceAdd, Int.reduceLT, Int.reduceLE, decide_false, decide_true, dec_true, dec_false, true_and, and_true, true_imp_iff, Bool.not_true, Bool.not_false, Option.map_none, Int.reduceToNat, Int.toNat_zero, Int.toNat_one, lkV_false, lkV_true, f0, f1, f2, f6, f7, f52, f53, f54, hyb2d, hyb2, ldA3])
          · subst e5
            refine (step_ok j' d' f' _ (by have := hq.dl; have := hSd.sides _ (List.mem_of_getElem? hq.at_); omega)).then ?_
            rintro _ V3 ⟨rfl, hy3⟩
            have hSV3 := (hSV2.ext (Ext.rfl' V2).dr).ext hy3
            have hGV3 := (hGV2.ext (Ext.rfl' V2).dr).ext hy3
            simp (disch := first | omega | assumption | (simp only [O1, World.size_alloc, World.size_setCell, World.size_drew]; first | done | omega)) only [↓D1, ↓D3, ↓D4, List.not_mem_nil, not_false_eq_true, Bool.false_eq_true, false_imp_iff, upto, O1, D2, ↓H0, S0, ↓S1, ↓S2, ↓S3, ↓S4, S5, S5b, S5c, ↓S6, S6b, M0, E0, ty, tl, te, tc, i64_wrap, u64_wrap, iaV_sl, iaV_arr, faV_pa, nck_pa, heap_new, heap_old, heap_set, ↓reduceIte, Nat.reduceEqDiff, Nat.reduceLT, Nat.reduceAdd, Int.reduceLT, Int.reduceLE, decide_false, decide_true, dec_true, dec_false, true_and, and_true, true_imp_iff, Bool.not_true, Bool.not_false, Option.map_none, Int.reduceToNat, Int.toNat_zero, Int.toNat_one, lkV_false, lkV_true, f0, f1, f2, f6, f7, f52, f53, f54]
            have hItn : It g.prods g.start word at_ j' (d' + 1) f' := by
              rw [hdl] at hIt
              exact .compl hIt hp.at_ hIty hq.at_ hnq
            refine (add_ok base S m lv2 l2 (tr j' (d' + 1) f') V3 hSV3 (by have := hfew hIV; omega) (by have := (hSV3.lt S (.inl rfl)); omega)).then ?_
            rintro _ V4 ⟨lv4, hSV4, hGV4⟩
            simp (disch := first | omega | assumption | (simp only [O1, World.size_alloc, World.size_setCell, World.size_drew]; first | done | omega)) only [↓D1, ↓D3, ↓D4, List.not_mem_nil, not_false_eq_true, Bool.false_eq_true, false_imp_iff, upto, O1, D2, ↓H0, S0, ↓S1, ↓S2, ↓S3, ↓S4, S5, S5b, S5c, ↓S6, S6b, M0, E0, ty, tl, te, tc, i64_wrap, u64_wrap, iaV_sl, iaV_arr, faV_pa, nck_pa, heap_new, heap_old, heap_set, ↓reduceIte, Nat.reduceEqDiff, Nat.reduceLT, Nat.reduceAdd, Int.reduceLT, Int.reduceLE, decide_false, decide_true, dec_true, dec_false, true_and, and_true, true_imp_iff, Bool.not_true, Bool.not_false, Option.map_none, Int.reduceToNat, Int.toNat_zero, Int.toNat_one, lkV_false, lkV_true, f0, f1, f2, f6, f7, f52, f53, f54]
            obtain ⟨r4, hr4⟩ := addL_pre l2 (tr j' (d' + 1) f')
            exact ⟨k3 - 1, by omega, j + 1, lv4, _, by omega, hSV4, hGV3.tr hGV4, hIV.add hItn, ⟨r2 ++ r4, by rw [hr4, hr2, List.append_assoc]⟩, hstep _ ⟨r4, hr4⟩ (fun _ => mem_addL.2 (.inr rfl)), rfl⟩
          · exact ⟨k3 - 1, by omega, j + 1, lv2, l2, by omega, hSV2.ext (Ext.rfl' V2).dr, hGV2.ext (Ext.rfl' V2).dr, hIV, ⟨r2, hr2⟩, hstep l2 ⟨[], by simp⟩ (fun hh => by rw [hnq] at hh; cases hh; exact absurd rfl e5'), rfl⟩
      · have hj : j = lf.length := by omega
        subst hj
        refine ⟨k - 1, by omega, n + 1, lv2, l2, by omega, hSV, (hGW.ext (hx12.tr hx23)).tr hGV, fin l2 hIV ⟨r2, hr2⟩ ⟨fun s hs => absurd (hnx.symm.trans hs) (by simp), fun _ hfat lf' hlf' j d' f' q hm hq hs => ?_⟩, ⟨hBW.mono fun x hx => by rw [hr2]; simp [hx], fun x hx => by rw [hr2]; simp [hsub x hx]⟩, rfl⟩
        rw [hLf hfat] at hlf'
        cases hlf'
        obtain ⟨jx, hjx, he⟩ := List.mem_iff_getElem.1 hm
        exact hcj jx hjx _ (List.getElem?_eq_getElem hjx) j d' f' q he hq hs
    | some s =>
      simp (disch := first | omega | assumption | (simp only [O1, World.size_alloc, World.size_setCell, World.size_drew]; first | done | omega)) only [O1, D2, ↓H0, S0, ↓S1, ↓S2, ↓S3, ↓S4, S5, S5b, S5c, ↓S6, S6b, M0, E0, ty, tl, te, tc, i64_wrap, u64_wrap, iaV_sl, iaV_arr, faV_pa, nck_pa, heap_new, heap_old, heap_set, ↓reduceIte, Nat.reduceEqDiff, Nat.reduceLT, Nat.reduceAdd, Int.reduceLT, Int.reduceLE, decide_false, decide_true, dec_true, dec_false, true_and, and_true, true_imp_iff, Bool.not_true, Bool.not_false, Option.map_none, Int.reduceToNat, Int.toNat_zero, Int.toNat_one, lkV_false, lkV_true, f0, f1, f2, f6, Option.isSome_some, Option.getD_some]
      have hsn : s < g.names.length := (hin p (List.mem_of_getElem? hp.at_)).2 s (List.mem_of_getElem? hnx)
      have hdl : d < p.2.length := (List.getElem?_eq_some_iff.1 hnx).1
      have hbox2 := hCW2.box
      have hvac : ∀ l2 : List Tri, d = p.2.length → f < at_ → ∀ lf : List Tri, L[f]? = some lf → ∀ (j d' f' : Nat) (q : Int × List Int), tr j d' f' ∈ lf → g.prods[j]? = some q → q.2[d']? = some p.1 → tr j (d' + 1) f' ∈ l2 := fun l2 h => by omega
      refine Br_if (fun h6 => ?_) (fun h6' => ?_) <;> (try simp (disch := first | omega | assumption | (simp only [O1, World.size_alloc, World.size_setCell, World.size_drew]; first | done | omega)) only [O1, D2, ↓H0, S0, ↓S1, ↓S2, ↓S3, ↓S4, S5, S5b, S5c, ↓S6, S6b, M0, E0, ty, tl, te, tc, i64_wrap, u64_wrap, iaV_sl, iaV_arr, faV_pa, nck_pa, heap_new, heap_old, heap_set, ↓reduceIte, Nat.reduceEqDiff, Nat.reduceLT, Nat.reduceAdd, Int.reduceLT, Int.reduceLE, decide_false, decide_true, dec_true, dec_false, true_and, and_true, true_imp_iff, Bool.not_true, Bool.not_false, Option.map_none, Int.reduceToNat, Int.toNat_zero, Int.toNat_one, lkV_false, lkV_true, f0, f1, f2, f6, hbox2])
      · have hsF : s.toNat < F.length := by rw [hF.1]; omega
        obtain ⟨RA, rc, hr1, hr2, hr3⟩ := hCW2.row hsF
        obtain ⟨r, hr⟩ : ∃ r, r = F[s.toNat] := ⟨_, rfl⟩
        obtain ⟨hrl, hrm⟩ := hF.2 s.toNat r (by rw [hr]; exact List.getElem?_eq_getElem hsF)
        rw [Int.toNat_of_nonneg h6] at hrm
        have hrow : ∀ V, Ctx wE V g Q nv tv C c wv G NG b0 bs ln F sv Sb e → V.heap[G]? = W2.heap[G]? → ∀ i (h : i < r.length), rd V RA i = some (.int .i64 r[i]) := by
          intro V hV hG
          subst hr
          obtain ⟨RA', rc', g1, g2, g3⟩ := hV.row hsF
          rw [hG, hr1] at g1
          simp only [Option.some.injEq, Value.slice.injEq] at g1
          obtain ⟨rfl, _, rfl⟩ := g1
          exact g3
        rw [← hr] at hr1 hr2
        clear hr hr3
        simp (disch := first | omega | assumption | (simp only [O1, World.size_alloc, World.size_setCell, World.size_drew]; first | done | omega)) only [O1, D2, ↓H0, S0, ↓S1, ↓S2, ↓S3, ↓S4, S5, S5b, S5c, ↓S6, S6b, M0, E0, ty, tl, te, tc, i64_wrap, u64_wrap, iaV_sl, iaV_arr, faV_pa, nck_pa, heap_new, heap_old, heap_set, ↓reduceIte, Nat.reduceEqDiff, Nat.reduceLT, Nat.reduceAdd, Int.reduceLT, Int.reduceLE, decide_false, decide_true, dec_true, dec_false, true_and, and_true, true_imp_iff, Bool.not_true, Bool.not_false, Option.map_none, Int.reduceToNat, Int.toNat_zero, Int.toNat_one, lkV_false, lkV_true, f0, f1, f2, f6, hbox2, hr1, hr2]
        refine ⟨fun k3 t V => ∃ (j : Nat) (lv2 : Value) (l2 : List Tri), k3 + j = r.length ∧ SetR base V S m lv2 l2 ∧ SetG W2 V S m (.slice A l'.length ac) lv2 ∧ ClI g.prods g.start word at_ L l2 n ∧ (∃ r, l2 = l' ++ r) ∧
          (∀ jx, jx < j → ∀ x, r[jx]? = some x → ∀ j', x = ((j' : Nat) : Int) → tr j' 0 at_ ∈ l2) ∧
          t 0 = pa (some ⟨Q, 0, none⟩) 0 ∧ t 1 = pa (some ⟨S, 0, none⟩) 0 ∧ t 2 = .int .i64 at_ ∧ t 6 = .int .i64 n ∧ t 7 = pa (some ⟨B, 0, none⟩) 0 ∧ t 8 = .int .i64 s ∧ t 93 = .slice RA r.length rc ∧ t 94 = .int .i64 r.length ∧ t 95 = .int .i64 j,
          ⟨r.length, 0, _, l', rfl, hSW2, SetG.refl _ _ _ _, hIW, ⟨[], by simp⟩, fun jx h => by omega, ?_⟩, ?_⟩
        · simp (disch := first | omega | assumption | (simp only [O1, World.size_alloc, World.size_setCell, World.size_drew]; first | done | omega)) only [O1, D2, ↓H0, S0, ↓S1, ↓S2, ↓S3, ↓S4, S5, S5b, S5c, ↓S6, S6b, M0, E0, ty, tl, te, tc, i64_wrap, u64_wrap, iaV_sl, iaV_arr, faV_pa, nck_pa, heap_new, heap_old, heap_set, ↓reduceIte, Nat.reduceEqDiff, Nat.reduceLT, Nat.reduceAdd, Int.reduceLT, Int.reduceLE, decide_false, decide_true, dec_true, dec_false, true_and, and_true, true_imp_iff, Bool.not_true, Bool.not_false, Option.map_none, Int.reduceToNat, Int.toNat_zero, Int.toNat_one, lkV_false, lkV_true, f0, f1, f2, f6] <;> rfl
        clear f0 f1 f2 f6
        rintro k3 t V ⟨j, lv2, l2, hk3, hSV, hGV, hIV, ⟨r2, hr2'⟩, hcj, f0, f1, f2, f6, f7, f8, f93, f94, f95⟩
        have hCV := hCW2.set hSW2 hGV hbE
        have hGb : V.heap[G]? = W2.heap[G]? := by
          obtain ⟨vs, hq, _⟩ := hCW2.by_
          exact hGV.chg.block G (lt_heap hq) (hSW2.no hq (by decide) (by decide))
        have hrV := hrow V hCV hGb
        simp (disch := first | omega | assumption | (simp only [O1, World.size_alloc, World.size_setCell, World.size_drew]; first | done | omega)) only [O1, D2, ↓H0, S0, ↓S1, ↓S2, ↓S3, ↓S4, S5, S5b, S5c, ↓S6, S6b, M0, E0, ty, tl, te, tc, i64_wrap, u64_wrap, iaV_sl, iaV_arr, faV_pa, nck_pa, heap_new, heap_old, heap_set, ↓reduceIte, Nat.reduceEqDiff, Nat.reduceLT, Nat.reduceAdd, Int.reduceLT, Int.reduceLE, decide_false, decide_true, dec_true, dec_false, true_and, and_true, true_imp_iff, Bool.not_true, Bool.not_false, Option.map_none, Int.reduceToNat, Int.toNat_zero, Int.toNat_one, lkV_false, lkV_true, f0, f1, f2, f6, f7, f8, f93, f94, f95]
        refine Br_if (fun h5 => ?_) (fun h5' => ?_) <;> (try simp (disch := first | omega | assumption | (simp only [O1, World.size_alloc, World.size_setCell, World.size_drew]; first | done | omega)) only [O1, D2, ↓H0, S0, ↓S1, ↓S2, ↓S3, ↓S4, S5, S5b, S5c, ↓S6, S6b, M0, E0, ty, tl, te, tc, i64_wrap, u64_wrap, iaV_sl, iaV_arr, faV_pa, nck_pa, heap_new, heap_old, heap_set, ↓reduceIte, Nat.reduceEqDiff, Nat.reduceLT, Nat.reduceAdd, Int.reduceLT, Int.reduceLE, decide_false, decide_true, dec_true, dec_false, true_and, and_true, true_imp_iff, Bool.not_true, Bool.not_false, Option.map_none, Int.reduceToNat, Int.toNat_zero, Int.toNat_one, lkV_false, lkV_true, f0, f1, f2, f6, f7, f8, f93, f94, f95])
        · have hj : j < r.length := by omega
          have c1 := hrV j hj
          have c1s := rd_isSome c1
          obtain ⟨j', q, hj', hq1, hq2, hq3⟩ := (hrm r[j]).1 (List.getElem_mem hj)
          rw [hj'] at c1
          simp (disch := first | omega | assumption | (simp only [O1, World.size_alloc, World.size_setCell, World.size_drew]; first | done | omega)) only [O1, D2, ↓H0, S0, ↓S1, ↓S2, ↓S3, ↓S4, S5, S5b, S5c, ↓S6, S6b, M0, E0, ty, tl, te, tc, i64_wrap, u64_wrap, iaV_sl, iaV_arr, faV_pa, nck_pa, heap_new, heap_old, heap_set, ↓reduceIte, Nat.reduceEqDiff, Nat.reduceLT, Nat.reduceAdd, Int.reduceLT, Int.reduceLE, decide_false, decide_true, dec_true, dec_false, true_and, and_true, true_imp_iff, Bool.not_true, Bool.not_false, Option.map_none, Int.reduceToNat, Int.toNat_zero, Int.toNat_one, lkV_false, lkV_true, f0, f1, f2, f6, f7, f8, f93, f94, f95, c1, bd138_0_2]
          have hItn : It g.prods g.start word at_ j' 0 at_ := .pred hIt hp.at_ hnx h6 hq1 hq2 hq3
          refine (add_ok base S m lv2 l2 (tr j' 0 at_) V hSV (by have := hfew hIV; omega) (by have := (hSV.lt S (.inl rfl)); omega)).then ?_
          rintro _ V4 ⟨lv4, hSV4, hGV4⟩
          simp (disch := first | omega | assumption | (simp only [O1, World.size_alloc, World.size_setCell, World.size_drew]; first | done | omega)) only [O1, D2, ↓H0, S0, ↓S1, ↓S2, ↓S3, ↓S4, S5, S5b, S5c, ↓S6, S6b, M0, E0, ty, tl, te, tc, i64_wrap, u64_wrap, iaV_sl, iaV_arr, faV_pa, nck_pa, heap_new, heap_old, heap_set, ↓reduceIte, Nat.reduceEqDiff, Nat.reduceLT, Nat.reduceAdd, Int.reduceLT, Int.reduceLE, decide_false, decide_true, dec_true, dec_false, true_and, and_true, true_imp_iff, Bool.not_true, Bool.not_false, Option.map_none, Int.reduceToNat, Int.toNat_zero, Int.toNat_one, lkV_false, lkV_true, f0, f1, f2, f6, f7, f8, f93, f94, f95]
          obtain ⟨r4, hr4⟩ := addL_pre l2 (tr j' 0 at_)
          refine ⟨k3 - 1, by omega, j + 1, lv4, _, by omega, hSV4, hGV.tr hGV4, hIV.add hItn, ⟨r2 ++ r4, by rw [hr4, hr2', List.append_assoc]⟩, fun jx hjx x hx jj hjj => ?_, rfl⟩
          by_cases e : jx = j
          · subst e
            rw [List.getElem?_eq_getElem hj, hj'] at hx
            simp only [Option.some.injEq] at hx
            have : j' = jj := by omega
            subst this
            exact mem_addL.2 (.inr rfl)
          · exact mem_addL.2 (.inl (hcj jx (by omega) x hx jj hjj))
        · have hj : j = r.length := by omega
          subst hj
          have hpr : ∀ j q, g.prods[j]? = some q → q.1 = s → Usable g.prods q.2 → tr j 0 at_ ∈ l2 := fun j q h1 h2 h3 => by
            obtain ⟨jx, hjx, he⟩ := List.mem_iff_getElem.1 ((hrm (j : Int)).2 ⟨j, q, rfl, h1, h2, h3⟩)
            exact hcj jx hjx _ (List.getElem?_eq_getElem hjx) j he
          have hboxV := hCV.box
          have hsl : s.toNat < ln.length := by rw [hln.1]; omega
          have n1 := hCV.nul.rd s.toNat hsl
          have n2 := hCV.nul.cell s.toNat hsl
          have hnul := hln.2 s.toNat (by omega)
          rw [Int.toNat_of_nonneg h6, List.getElem?_eq_getElem hsl] at hnul
          simp only [Option.some.injEq] at hnul
          have hxbV : V.heap[B]? = _ := (hGV.chg.block B (lt_heap hxb2) (fun hM => by have := (hSW.lt B hM).2; omega)).trans hxb2
          generalize ln[s.toNat] = nb at *
          simp (disch := first | omega | assumption | (simp only [O1, World.size_alloc, World.size_setCell, World.size_drew]; first | done | omega)) only [O1, D2, ↓H0, S0, ↓S1, ↓S2, ↓S3, ↓S4, S5, S5b, S5c, ↓S6, S6b, M0, E0, ty, tl, te, tc, i64_wrap, u64_wrap, iaV_sl, iaV_arr, faV_pa, nck_pa, heap_new, heap_old, heap_set, ↓reduceIte, Nat.reduceEqDiff, Nat.reduceLT, Nat.reduceAdd, Int.reduceLT, Int.reduceLE, decide_false, decide_true, dec_true, dec_false, true_and, and_true, true_imp_iff, Bool.not_true, Bool.not_false, Option.map_none, Int.reduceToNat, Int.toNat_zero, Int.toNat_one, lkV_false, lkV_true, f0, f1, f2, f6, f7, f8, hboxV, n1, n2]
          cases nb with
          | false =>
            simp (disch := first | omega | assumption | (simp only [O1, World.size_alloc, World.size_setCell, World.size_drew]; first | done | omega)) only [O1, D2, ↓H0, S0, ↓S1, ↓S2, ↓S3, ↓S4, S5, S5b, S5c, ↓S6, S6b, M0, E0, ty, tl, te, tc, i64_wrap, u64_wrap, iaV_sl, iaV_arr, faV_pa, nck_pa, heap_new, heap_old, heap_set, ↓reduceIte, Nat.reduceEqDiff, Nat.reduceLT, Nat.reduceAdd, Int.reduceLT, Int.reduceLE, decide_false, decide_true, dec_true, dec_false, true_and, and_true, true_imp_iff, Bool.not_true, Bool.not_false, Option.map_none, Int.reduceToNat, Int.toNat_zero, Int.toNat_one, lkV_false, lkV_true, f0, f1, f2, f6, f7, f8]
            exact ⟨k - 1, by omega, n + 1, lv2, l2, by omega, hSV, (hGW.ext hx12).tr hGV, fin l2 hIV ⟨r2, hr2'⟩ ⟨fun s' hs' h0 => by
              rw [hnx] at hs'; cases hs'
              exact ⟨hpr, fun hg => by have := hnul.2 hg; cases this⟩, hvac l2⟩, ⟨hBW.mono fun x hx => by rw [hr2']; simp [hx], fun x hx => by rw [hr2']; simp [hsub x hx]⟩, rfl⟩
          | true =>
            simp (disch := first | omega | assumption | (simp only [O1, World.size_alloc, World.size_setCell, World.size_drew]; first | done | omega)) only [O1, D2, ↓H0, S0, ↓S1, ↓S2, ↓S3, ↓S4, S5, S5b, S5c, ↓S6, S6b, M0, E0, ty, tl, te, tc, i64_wrap, u64_wrap, iaV_sl, iaV_arr, faV_pa, nck_pa, heap_new, heap_old, heap_set, ↓reduceIte, Nat.reduceEqDiff, Nat.reduceLT, Nat.reduceAdd, Int.reduceLT, Int.reduceLE, decide_false, decide_true, dec_true, dec_false, true_and, and_true, true_imp_iff, Bool.not_true, Bool.not_false, Option.map_none, Int.reduceToNat, Int.toNat_zero, Int.toNat_one, lkV_false, lkV_true, f0, f1, f2, f6, f7, f8, hxbV, ldA3]
            refine (step_ok i d f V (by have := hSd.sides _ (List.mem_of_getElem? hp.at_); omega)).then ?_
            rintro _ V3 ⟨rfl, hy3⟩
            have hSV3 := hSV.ext hy3
            simp (disch := first | omega | assumption | (simp only [O1, World.size_alloc, World.size_setCell, World.size_drew]; first | done | omega)) only [O1, D2, ↓H0, S0, ↓S1, ↓S2, ↓S3, ↓S4, S5, S5b, S5c, ↓S6, S6b, M0, E0, ty, tl, te, tc, i64_wrap, u64_wrap, iaV_sl, iaV_arr, faV_pa, nck_pa, heap_new, heap_old, heap_set, ↓reduceIte, Nat.reduceEqDiff, Nat.reduceLT, Nat.reduceAdd, Int.reduceLT, Int.reduceLE, decide_false, decide_true, dec_true, dec_false, true_and, and_true, true_imp_iff, Bool.not_true, Bool.not_false, Option.map_none, Int.reduceToNat, Int.toNat_zero, Int.toNat_one, lkV_false, lkV_true, f0, f1, f2, f6, f7, f8]
            have hItn : It g.prods g.start word at_ i (d + 1) f := hIt.over hlef hp.at_ hnx (hnul.1 rfl)
            refine (add_ok base S m lv2 l2 (tr i (d + 1) f) V3 hSV3 (by have := hfew hIV; omega) (by have := (hSV3.lt S (.inl rfl)); omega)).then ?_
            rintro _ V4 ⟨lv4, hSV4, hGV4⟩
            simp (disch := first | omega | assumption | (simp only [O1, World.size_alloc, World.size_setCell, World.size_drew]; first | done | omega)) only [O1, D2, ↓H0, S0, ↓S1, ↓S2, ↓S3, ↓S4, S5, S5b, S5c, ↓S6, S6b, M0, E0, ty, tl, te, tc, i64_wrap, u64_wrap, iaV_sl, iaV_arr, faV_pa, nck_pa, heap_new, heap_old, heap_set, ↓reduceIte, Nat.reduceEqDiff, Nat.reduceLT, Nat.reduceAdd, Int.reduceLT, Int.reduceLE, decide_false, decide_true, dec_true, dec_false, true_and, and_true, true_imp_iff, Bool.not_true, Bool.not_false, Option.map_none, Int.reduceToNat, Int.toNat_zero, Int.toNat_one, lkV_false, lkV_true, f0, f1, f2, f6, f7, f8]
            obtain ⟨r4, hr4⟩ := addL_pre l2 (tr i (d + 1) f)
            exact ⟨k - 1, by omega, n + 1, lv4, _, by omega, hSV4, ((hGW.ext hx12).tr (hGV.ext hy3)).tr hGV4, fin _ (hIV.add hItn) ⟨r2 ++ r4, by rw [hr4, hr2', List.append_assoc]⟩ ⟨fun s' hs' h0 => by
              rw [hnx] at hs'; cases hs'
              exact ⟨fun j q a b c => mem_addL.2 (.inl (hpr j q a b c)), fun _ => mem_addL.2 (.inr rfl)⟩, hvac _⟩, ⟨hBW.mono fun x hx => mem_addL.2 (.inl (by rw [hr2']; simp [hx])), fun x hx => mem_addL.2 (.inl (by rw [hr2']; simp [hsub x hx]))⟩, rfl⟩
      · exact ⟨k - 1, by omega, n + 1, _, l', by omega, hSW2, hGW2, fin l' hIW ⟨[], by simp⟩ ⟨fun s' hs' h0 => by rw [hnx] at hs'; cases hs'; omega, hvac l'⟩, ⟨hBW, hsub⟩, rfl⟩
  · have hn : n = l'.length := by omega
    subst hn
    exact ⟨_, l', hSW, hGW, hIW.done hlef hBW fun f hf => by obtain ⟨lf, h1, h2, _⟩ := hLs f hf; exact ⟨lf, h1, h2⟩, hIW.nd, hsub⟩
end Go.Proofs.Ytgioklmpnbnplaa
