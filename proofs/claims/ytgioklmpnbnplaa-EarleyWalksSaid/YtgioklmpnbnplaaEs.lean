/- The walks of a chart's scan, Good, Next, Ends, Yes. Conditions: none. -/
import Derived.Test.YtgioklmpnbnplaaEc
set_option linter.unusedSimpArgs false
set_option linter.unusedVariables false
set_option maxRecDepth 100000
namespace Go.Proofs.Ytgioklmpnbnplaa
open Go.V Go.RowKit

theorem Ctx.chr {wE W : World} {g : PG} {Q : Nat} {nv tv : Value} {C : Option Addr} {c : Nat} {wv : Value} {G NG b0 bs : Nat} {ln : List Bool} {F : List (List Int)} {sv : Value} {Sb : List Nat} {e : Bool} (h : Ctx wE W g Q nv tv C c wv G NG b0 bs ln F sv Sb e)
    (hP : ∀ i (h : i < g.prods.length), rd wE C (i * 2) = some (.int .i64 g.prods[i].1) ∧ ∃ r, rd wE C (i * 2 + 1) = some r ∧ Ints wE r g.prods[i].2) :
    ChR W Q g nv tv C c wv (.slice (some ⟨G, 0, none⟩) F.length F.length) (.slice (some ⟨NG, 0, none⟩) ln.length ln.length) sv e :=
  ⟨h.box, fun i hi => ⟨h.ext.rd (hP i hi).1, _, h.ext.rd (hP i hi).2.choose_spec.1, (hP i hi).2.choose_spec.2.ext h.ext⟩⟩
set_option maxHeartbeats 4000000 in
theorem scanE_ok (wE w : World) (g : PG) (Q : Nat) (nv tv : Value) (C : Option Addr) (c : Nat) (wv : Value) (G NG b0 bs : Nat) (ln : List Bool) (F : List (List Int)) (sv : Value) (Sb : List Nat) (e : Bool) (word : List Int) (base S m k : Nat) (lv : Value) (l : List Tri) (L : List (List Tri)) (t : Int)
    (hC : Ctx wE w g Q nv tv C c wv G NG b0 bs ln F sv Sb e) (hP : ∀ i (h : i < g.prods.length), rd wE C (i * 2) = some (.int .i64 g.prods[i].1) ∧ ∃ r, rd wE C (i * 2 + 1) = some r ∧ Ints wE r g.prods[i].2) (hSd : SoundP g)
    (hwl : word.length ≤ 64) (hk : word[k]? = some t) (ht0 : 0 ≤ t) (ht1 : t < 256) (hL : L.length = k) (hS : SetR base w S m lv l) (hok : SetOk g.prods g.start word k l) (hnd : l.Nodup) :
    Ok Try.prog 98 #[pa (some ⟨Q, 0, none⟩) 0, pa (some ⟨S, 0, none⟩) 0, .int .i64 t] w fun v w' => ∃ S2 m2 lv2 l2, v = pa (some ⟨S2, 0, none⟩) 0 ∧ SetR w.heap.size w' S2 m2 lv2 l2 ∧ Ext w w' ∧ ClI g.prods g.start word (k + 1) (L ++ [l]) l2 0 ∧ Base g.prods g.start word (k + 1) (L ++ [l]) l2 := by
  have hin := hSd.inR
  have hlef : Lefts g.prods := fun p hp => (hin p hp).1.1
  have hpl := hSd.2.1.2.2.1
  have hlen := items_few hlef hpl hSd.sides hwl (fun x => (hok x).1) hnd
  (refine Ok.enter Try.func98 rfl (by kernel_rfl) (Nat.le_of_ble_eq_true rfl) ?_; simp only [Try.f98, S7])
  simp (disch := first | omega | assumption | (simp only [O1, World.size_alloc, World.size_setCell, World.size_drew]; first | done | omega)) only [O1, D2, ↓H0, S0, ↓S1, ↓S2, ↓S3, ↓S4, S5, S5b, S5c, ↓S6, S6b, M0, E0, ty, tl, te, tc, i64_wrap, u64_wrap, iaV_sl, iaV_arr, faV_pa, nck_pa, heap_new, heap_old, heap_set, ↓reduceIte, Nat.reduceEqDiff, Nat.reduceLT, Nat.reduceAdd, Int.reduceLT, Int.reduceLE, decide_false, decide_true, dec_true, dec_false, true_and, and_true, true_imp_iff, Bool.not_true, Bool.not_false, Option.map_none, Int.reduceToNat, Int.toNat_zero, Int.toNat_one, lkV_false, lkV_true]
  obtain ⟨A, ac, rfl, hac, hA⟩ := hS.row.tris
  have hbox := hS.box
  have hSl := lt_heap hbox
  obtain ⟨W0, hW0⟩ : ∃ W0, W0 = (w.alloc (.map #[] 0)).alloc (.cells #[.slice none 0 0, .map (some w.heap.size)] 135) := ⟨_, rfl⟩
  have hx0 : Ext w W0 := by rw [hW0]; exact ((Ext.rfl' w).al _).al _
  have hbox0 := hx0.hp hbox
  have hS2 : SetR w.heap.size W0 (w.heap.size + 1) w.heap.size (.slice none 0 0) [] := by
    refine ⟨?_, Row3.nil W0, ?_, by omega, Nat.le_refl _⟩
    · rw [hW0]; exact heap_new _ (by simp)
    · have : MapF triV (w.alloc (.map #[] 0)) w.heap.size (fun _ => none) := MapF.new triV w
      have h2 := this.ext ((Ext.rfl' (w.alloc (.map #[] 0))).al (.cells #[.slice none 0 0, .map (some w.heap.size)] 135))
      rw [← hW0] at h2
      have e : memF [] = fun _ => none := by funext k; simp [memF]
      rw [e]; exact h2
  rw [hW0] at hbox0
  simp (disch := first | omega | assumption | (simp only [O1, World.size_alloc, World.size_setCell, World.size_drew]; first | done | omega)) only [O1, D2, ↓H0, S0, ↓S1, ↓S2, ↓S3, ↓S4, S5, S5b, S5c, ↓S6, S6b, M0, E0, ty, tl, te, tc, i64_wrap, u64_wrap, iaV_sl, iaV_arr, faV_pa, nck_pa, heap_new, heap_old, heap_set, ↓reduceIte, Nat.reduceEqDiff, Nat.reduceLT, Nat.reduceAdd, Int.reduceLT, Int.reduceLE, decide_false, decide_true, dec_true, dec_false, true_and, and_true, true_imp_iff, Bool.not_true, Bool.not_false, Option.map_none, Int.reduceToNat, Int.toNat_zero, Int.toNat_one, lkV_false, lkV_true, hbox, hbox0, bd135_1]
  rw [← hW0]
  refine ⟨fun k3 t' V => ∃ (j : Nat) (lv2 : Value) (l2 : List Tri), k3 + j = l.length ∧ SetR w.heap.size V (w.heap.size + 1) w.heap.size lv2 l2 ∧ Ext w V ∧ (∀ x ∈ l2, ∃ i d f, x = tr i d f ∧ It g.prods g.start word (k + 1) i d f) ∧ l2.Nodup ∧
    (∀ jx, jx < j → ∀ x, l[jx]? = some x → ∀ i d f p, x = tr i d f → g.prods[i]? = some p → p.2[d]? = some (-1 - t) → tr i (d + 1) f ∈ l2) ∧
    t' 0 = pa (some ⟨Q, 0, none⟩) 0 ∧ t' 2 = .int .i64 t ∧ t' 7 = pa (some ⟨w.heap.size + 1, 0, none⟩) 0 ∧ t' 18 = .slice A l.length ac ∧ t' 19 = .int .i64 l.length ∧ t' 20 = .int .i64 j,
    ⟨l.length, 0, _, [], rfl, hS2, hx0, by simp, by simp, fun jx h => by omega, ?_⟩, ?_⟩
  · simp (disch := first | omega | assumption | (simp only [O1, World.size_alloc, World.size_setCell, World.size_drew]; first | done | omega)) only [O1, D2, ↓H0, S0, ↓S1, ↓S2, ↓S3, ↓S4, S5, S5b, S5c, ↓S6, S6b, M0, E0, ty, tl, te, tc, i64_wrap, u64_wrap, iaV_sl, iaV_arr, faV_pa, nck_pa, heap_new, heap_old, heap_set, ↓reduceIte, Nat.reduceEqDiff, Nat.reduceLT, Nat.reduceAdd, Int.reduceLT, Int.reduceLE, decide_false, decide_true, dec_true, dec_false, true_and, and_true, true_imp_iff, Bool.not_true, Bool.not_false, Option.map_none, Int.reduceToNat, Int.toNat_zero, Int.toNat_one, lkV_false, lkV_true] <;> rfl
  rintro k3 t' V ⟨j, lv2, l2, hk3, hSV, hxV, hsn, hndV, hcj, f0, f2, f7, f18, f19, f20⟩
  have hCV := hC.ext' hxV
  have hfew := items_few hlef hpl hSd.sides hwl hsn hndV
  simp (disch := first | omega | assumption | (simp only [O1, World.size_alloc, World.size_setCell, World.size_drew]; first | done | omega)) only [O1, D2, ↓H0, S0, ↓S1, ↓S2, ↓S3, ↓S4, S5, S5b, S5c, ↓S6, S6b, M0, E0, ty, tl, te, tc, i64_wrap, u64_wrap, iaV_sl, iaV_arr, faV_pa, nck_pa, heap_new, heap_old, heap_set, ↓reduceIte, Nat.reduceEqDiff, Nat.reduceLT, Nat.reduceAdd, Int.reduceLT, Int.reduceLE, decide_false, decide_true, dec_true, dec_false, true_and, and_true, true_imp_iff, Bool.not_true, Bool.not_false, Option.map_none, Int.reduceToNat, Int.toNat_zero, Int.toNat_one, lkV_false, lkV_true, f0, f2, f7, f18, f19, f20]
  refine Br_if (fun h5 => ?_) (fun h5' => ?_) <;> (try simp (disch := first | omega | assumption | (simp only [O1, World.size_alloc, World.size_setCell, World.size_drew]; first | done | omega)) only [O1, D2, ↓H0, S0, ↓S1, ↓S2, ↓S3, ↓S4, S5, S5b, S5c, ↓S6, S6b, M0, E0, ty, tl, te, tc, i64_wrap, u64_wrap, iaV_sl, iaV_arr, faV_pa, nck_pa, heap_new, heap_old, heap_set, ↓reduceIte, Nat.reduceEqDiff, Nat.reduceLT, Nat.reduceAdd, Int.reduceLT, Int.reduceLE, decide_false, decide_true, dec_true, dec_false, true_and, and_true, true_imp_iff, Bool.not_true, Bool.not_false, Option.map_none, Int.reduceToNat, Int.toNat_zero, Int.toNat_one, lkV_false, lkV_true, f0, f2, f7, f18, f19, f20])
  · have hj : j < l.length := by omega
    obtain ⟨i, d, f, hx, hIt⟩ := (hok l[j]).1 (List.getElem_mem hj)
    obtain ⟨a1, a2, a3⟩ := hA j hj
    rw [hx] at a1 a2 a3
    simp only [tr] at a1 a2 a3
    have b1 := hxV.rd a1
    have b2 := hxV.rd a2
    have b3 := hxV.rd a3
    have hAs := rd_isSome a1
    obtain ⟨p, hp⟩ := hIt.snd hlef
    obtain ⟨hi, hpe⟩ := List.getElem?_eq_some_iff.1 hp.at_
    simp (disch := first | omega | assumption | (simp only [O1, World.size_alloc, World.size_setCell, World.size_drew]; first | done | omega)) only [O1, D2, ↓H0, S0, ↓S1, ↓S2, ↓S3, ↓S4, S5, S5b, S5c, ↓S6, S6b, M0, E0, ty, tl, te, tc, i64_wrap, u64_wrap, iaV_sl, iaV_arr, faV_pa, nck_pa, heap_new, heap_old, heap_set, ↓reduceIte, Nat.reduceEqDiff, Nat.reduceLT, Nat.reduceAdd, Int.reduceLT, Int.reduceLE, decide_false, decide_true, dec_true, dec_false, true_and, and_true, true_imp_iff, Bool.not_true, Bool.not_false, Option.map_none, Int.reduceToNat, Int.toNat_zero, Int.toNat_one, lkV_false, lkV_true, f0, f2, f7, f18, f19, f20, b1, b2, b3, ldA3, st138]
    have hx1 := (Ext.rfl' V).al (.cells #[.int .i64 i, .int .i64 d, .int .i64 f] 138)
    have hxb := heap_new (w := V) (.cells #[.int .i64 i, .int .i64 d, .int .i64 f] 138) rfl
    generalize V.alloc (.cells #[.int .i64 i, .int .i64 d, .int .i64 f] 138) = V1 at *
    obtain ⟨B, hB⟩ : ∃ B, B = V.heap.size := ⟨_, rfl⟩
    rw [← hB] at hxb ⊢
    refine (next_ok Q g nv tv C c wv _ _ sv e i d f V1 ((hCV.ext' hx1).chr hP) hi (by rw [hpe]; exact hp.dl) hSd).then ?_
    rintro _ V2 ⟨rfl, hx2⟩
    have hx12 := hx1.tr hx2
    have hSV2 := hSV.ext hx12
    have hxb2 := hx2.hp hxb
    rw [hpe]
    have hstep : ∀ (l3 : List Tri), (∀ x ∈ l2, x ∈ l3) → (p.2[d]? = some (-1 - t) → tr i (d + 1) f ∈ l3) → ∀ jx, jx < j + 1 → ∀ x, l[jx]? = some x → ∀ i d f p, x = tr i d f → g.prods[i]? = some p → p.2[d]? = some (-1 - t) → tr i (d + 1) f ∈ l3 := by
      intro l3 hsub hl3 jx hjx x hx' ii dd ff pp hxe hpp hss
      subst hxe
      by_cases e : jx = j
      · subst e
        rw [List.getElem?_eq_getElem hj, hx] at hx'
        simp only [Option.some.injEq] at hx'
        obtain ⟨rfl, rfl, rfl⟩ := tr_inj hx'
        have := hp.at_
        rw [this] at hpp; cases hpp
        exact hl3 hss
      · exact hsub _ (hcj jx (by omega) _ hx' ii dd ff pp rfl hpp hss)
    have hw : IntKind.i64.wrap (-1 - t) = -1 - t := i64_wrap (by omega) (by omega)
    cases hnx : p.2[d]? with
    | none =>
      simp (disch := first | omega | assumption | (simp only [O1, World.size_alloc, World.size_setCell, World.size_drew]; first | done | omega)) only [O1, D2, ↓H0, S0, ↓S1, ↓S2, ↓S3, ↓S4, S5, S5b, S5c, ↓S6, S6b, M0, E0, ty, tl, te, tc, i64_wrap, u64_wrap, iaV_sl, iaV_arr, faV_pa, nck_pa, heap_new, heap_old, heap_set, ↓reduceIte, Nat.reduceEqDiff, Nat.reduceLT, Nat.reduceAdd, Int.reduceLT, Int.reduceLE, decide_false, decide_true, dec_true, dec_false, true_and, and_true, true_imp_iff, Bool.not_true, Bool.not_false, Option.map_none, Int.reduceToNat, Int.toNat_zero, Int.toNat_one, lkV_false, lkV_true, f0, f2, f7, f18, f19, f20, Option.isSome_none, Option.getD_none]
      exact ⟨k3 - 1, by omega, j + 1, lv2, l2, by omega, hSV2, hxV.tr hx12, hsn, hndV, hstep l2 (fun x h => h) (fun h => by rw [hnx] at h; cases h), rfl⟩
    | some s =>
      simp (disch := first | omega | assumption | (simp only [O1, World.size_alloc, World.size_setCell, World.size_drew]; first | done | omega)) only [O1, D2, ↓H0, S0, ↓S1, ↓S2, ↓S3, ↓S4, S5, S5b, S5c, ↓S6, S6b, M0, E0, ty, tl, te, tc, i64_wrap, u64_wrap, iaV_sl, iaV_arr, faV_pa, nck_pa, heap_new, heap_old, heap_set, ↓reduceIte, Nat.reduceEqDiff, Nat.reduceLT, Nat.reduceAdd, Int.reduceLT, Int.reduceLE, decide_false, decide_true, dec_true, dec_false, true_and, and_true, true_imp_iff, Bool.not_true, Bool.not_false, Option.map_none, Int.reduceToNat, Int.toNat_zero, Int.toNat_one, lkV_false, lkV_true, f0, f2, f7, f18, f19, f20, Option.isSome_some, Option.getD_some, hw]
      refine Br_if (fun h6 => ?_) (fun h6' => ?_) <;> (try simp (disch := first | omega | assumption | (simp only [O1, World.size_alloc, World.size_setCell, World.size_drew]; first | done | omega)) only [O1, D2, ↓H0, S0, ↓S1, ↓S2, ↓S3, ↓S4, S5, S5b, S5c, ↓S6, S6b, M0, E0, ty, tl, te, tc, i64_wrap, u64_wrap, iaV_sl, iaV_arr, faV_pa, nck_pa, heap_new, heap_old, heap_set, ↓reduceIte, Nat.reduceEqDiff, Nat.reduceLT, Nat.reduceAdd, Int.reduceLT, Int.reduceLE, decide_false, decide_true, dec_true, dec_false, true_and, and_true, true_imp_iff, Bool.not_true, Bool.not_false, Option.map_none, Int.reduceToNat, Int.toNat_zero, Int.toNat_one, lkV_false, lkV_true, f0, f2, f7, f18, f19, f20, hxb2, ldA3])
      · subst h6
        refine (step_ok i d f V2 (by have := hp.dl; have := hSd.sides _ (List.mem_of_getElem? hp.at_); omega)).then ?_
        rintro _ V3 ⟨rfl, hx3⟩
        have hSV3 := hSV2.ext hx3
        simp (disch := first | omega | assumption | (simp only [O1, World.size_alloc, World.size_setCell, World.size_drew]; first | done | omega)) only [O1, D2, ↓H0, S0, ↓S1, ↓S2, ↓S3, ↓S4, S5, S5b, S5c, ↓S6, S6b, M0, E0, ty, tl, te, tc, i64_wrap, u64_wrap, iaV_sl, iaV_arr, faV_pa, nck_pa, heap_new, heap_old, heap_set, ↓reduceIte, Nat.reduceEqDiff, Nat.reduceLT, Nat.reduceAdd, Int.reduceLT, Int.reduceLE, decide_false, decide_true, dec_true, dec_false, true_and, and_true, true_imp_iff, Bool.not_true, Bool.not_false, Option.map_none, Int.reduceToNat, Int.toNat_zero, Int.toNat_one, lkV_false, lkV_true, f0, f2, f7, f18, f19, f20]
        have hItn : It g.prods g.start word (k + 1) i (d + 1) f := .scan hIt hp.at_ hnx (by omega) (by rw [hk]; congr 1; omega)
        refine (add_ok w.heap.size _ _ lv2 l2 (tr i (d + 1) f) V3 hSV3 (by omega) (by have := (hSV3.lt _ (.inl rfl)); omega)).then ?_
        rintro _ V4 ⟨lv4, hSV4, hGV4⟩
        simp (disch := first | omega | assumption | (simp only [O1, World.size_alloc, World.size_setCell, World.size_drew]; first | done | omega)) only [O1, D2, ↓H0, S0, ↓S1, ↓S2, ↓S3, ↓S4, S5, S5b, S5c, ↓S6, S6b, M0, E0, ty, tl, te, tc, i64_wrap, u64_wrap, iaV_sl, iaV_arr, faV_pa, nck_pa, heap_new, heap_old, heap_set, ↓reduceIte, Nat.reduceEqDiff, Nat.reduceLT, Nat.reduceAdd, Int.reduceLT, Int.reduceLE, decide_false, decide_true, dec_true, dec_false, true_and, and_true, true_imp_iff, Bool.not_true, Bool.not_false, Option.map_none, Int.reduceToNat, Int.toNat_zero, Int.toNat_one, lkV_false, lkV_true, f0, f2, f7, f18, f19, f20]
        refine ⟨k3 - 1, by omega, j + 1, lv4, _, by omega, hSV4, ?_, fun x hx => ?_, addL_nodup hndV, hstep _ (fun x h => mem_addL.2 (.inl h)) (fun _ => mem_addL.2 (.inr rfl)), rfl⟩
        · exact ((hxV.tr hx12).tr hx3).chg hGV4.chg fun x hM => (hSV3.lt x hM).1
        · rcases mem_addL.1 hx with hx | rfl
          · exact hsn x hx
          · exact ⟨i, d + 1, f, rfl, hItn⟩
      · exact ⟨k3 - 1, by omega, j + 1, lv2, l2, by omega, hSV2, hxV.tr hx12, hsn, hndV, hstep l2 (fun x h => h) (fun h => by rw [hnx] at h; cases h; exact absurd rfl h6'), rfl⟩
  · have hj : j = l.length := by omega
    subst hj
    refine ⟨_, _, lv2, l2, rfl, hSV, hxV, ⟨hsn, hndV, Nat.zero_le _, fun i d f p h => by simp at h⟩, ⟨fun h => by omega, fun k' hk' lf hlf i d f p s hm hpi hs h0 hw => ?_⟩⟩
    have e1 : k' = k := by omega
    subst e1
    rw [List.getElem?_append_right (by omega), hL, Nat.sub_self] at hlf
    simp only [List.getElem?_cons_zero, Option.some.injEq] at hlf
    subst hlf
    rw [hk] at hw
    simp only [Option.some.injEq] at hw
    obtain ⟨jx, hjx, he⟩ := List.mem_iff_getElem.1 hm
    exact hcj jx hjx _ (List.getElem?_eq_getElem hjx) i d f p he hpi (by rw [hs]; congr 1; omega)
theorem SetR.chgT {base : Nat} {w W : World} {S m : Nat} {lv : Value} {l : List Tri} (h : SetR base w S m lv l) {M : Nat → Prop} (hc : Chg M w W) (hM : ∀ k, M k → ∃ cs t f, w.heap[k]? = some (.cells cs t f) ∧ t ≠ 135 ∧ t ≠ 138) : SetR base W S m lv l := by
  have hno : ∀ k, Mv S m lv k → ¬ M k := fun k hk hm => by
    obtain ⟨cs, t, f, hq, h3, h4⟩ := hM k hm
    exact h.no hq h3 h4 hk
  obtain ⟨es, cl, ⟨h3, h4⟩, h5⟩ := h.map
  exact ⟨hc.hp h.box (hno S (.inl rfl)), h.row.chg hc fun k hk => hno k (.inr (.inr hk)), ⟨es, cl, ⟨hc.hp h3 (hno m (.inr (.inl rfl))), h4⟩, h5⟩, h.bs, h.bm⟩
/-- Another set is put behind those of a chart. -/
theorem Ctx.push {wE w : World} {g : PG} {Q : Nat} {nv tv : Value} {C : Option Addr} {c : Nat} {wv : Value} {G NG b0 bs : Nat} {ln : List Bool} {F : List (List Int)} {sv : Value} {Sb : List Nat} {e : Bool} (h : Ctx wE w g Q nv tv C c wv G NG b0 bs ln F sv Sb e)
    (hQ : wE.heap.size ≤ Q) (hbs : wE.heap.size ≤ bs) {v' : Value} {Y : World} {S : Nat} (hR : Row encP bs 131 Y v' (Sb ++ [S])) (hg : w.grownBy Y sv.ownBlock) :
    stoT Try.prog 128 Y (pa (some ⟨Q, 0, none⟩) 8) v' = some (Y.setCell ⟨Q, 8, none⟩ v') ∧ Ctx wE (Y.setCell ⟨Q, 8, none⟩ v') g Q nv tv C c wv G NG b0 bs ln F v' (Sb ++ [S]) e ∧
      ∃ M : Nat → Prop, Chg M w (Y.setCell ⟨Q, 8, none⟩ v') ∧ ∀ k, M k → ∃ cs t f, w.heap[k]? = some (.cells cs t f) ∧ (t = 131 ∨ t = 130) := by
  have hM : ∀ k, (sv.ownBlock = some k ∨ k = Q) → ∃ cs t f, w.heap[k]? = some (.cells cs t f) ∧ (t = 131 ∨ t = 130) := by
    rintro k (hk | rfl)
    · obtain ⟨cs, f, hq⟩ := h.sts.typed hk
      exact ⟨cs, _, f, hq, .inl rfl⟩
    · exact ⟨_, _, _, h.box, .inr rfl⟩
  have hc : Chg (fun k => sv.ownBlock = some k ∨ k = Q) w (Y.setCell ⟨Q, 8, none⟩ v') :=
    (Chg.grown (M := fun k => sv.ownBlock = some k ∨ k = Q) hg fun k hk => .inl hk).tr (Chg.grown (M := fun k => sv.ownBlock = some k ∨ k = Q) (grown_set Y Q 8 v') fun k hk => .inr (by simpa using hk.symm)) fun x _ hx => hx
  have hQown : sv.ownBlock ≠ some Q := h.sts.ne h.box (by decide)
  have hbY : Y.heap[Q]? = _ := (hg.block Q (lt_heap h.box) (fun e => hQown e.symm)).trans h.box
  have hst := sto_own (P := Try.prog) (T := 128) (w := Y) (g := Q) (o := 0) (k := 8) (x := v') (by simp only [ty]) hbY (by simp) hR.one
  refine ⟨by simpa using hst, ⟨?_, ?_, ?_, ?_, ?_⟩, _, hc, hM⟩
  · refine h.ext.chg hc ?_
    rintro x (hx | rfl)
    · have := (h.sts.lt x hx).1; omega
    · exact hQ
  · rw [heap_set_same, hbY]; rfl
  · refine h.by_.chg hc fun k cs t f hk hq => ?_
    obtain ⟨cs', t', f', hq', h2⟩ := hM k hk
    rw [hq] at hq'; cases hq'
    rcases h2 with rfl | rfl <;> exact ⟨by decide, by decide⟩
  · refine h.nul.hp (hc.block NG h.nul.lt fun hk => ?_)
    obtain ⟨cs', t', f', hq', h2⟩ := hM NG hk
    have h3 : w.heap[NG]? = _ := h.nul
    rw [h3] at hq'; cases hq'
    rcases h2 with h2 | h2 <;> exact absurd h2 (by decide)
  · have : v'.ownBlock ≠ some Q := hR.ne hbY (by decide)
    exact hR.chg (Chg.grown (M := fun k => k = Q) (grown_set Y Q 8 v') fun k hk => by simpa using hk.symm) fun k hk e => this (e ▸ hk)
end Go.Proofs.Ytgioklmpnbnplaa
