/- A grammar that a law makes: what stands while it grows. Conditions: none. -/
import Derived.Test.YtgioklmpnbnplaaFa1
import Derived.Test.YtgioklmpnbnplaaKr2
set_option linter.unusedSimpArgs false
set_option linter.unusedVariables false
set_option maxRecDepth 100000
namespace Go.Proofs.Ytgioklmpnbnplaa
open Go.V

/-- A grammar's box and its three growing rows. -/
structure GrW (T TP : Nat) (w U : World) (b base B : Nat) (start rules : Int) (names terms : List ByteArray) (prods : List (Int × List Int)) (nv tv pv : Value) : Prop where
  ext : Ext w U
  box : U.heap[b]? = some (.cells #[.int .i64 start, .int .i64 rules, nv, tv, pv] T (0, 0))
  nrow : Row Value.string base 9 U nv names
  trow : Row Value.string base 9 U tv terms
  dis : ∀ k, nv.ownBlock = some k → tv.ownBlock ≠ some k
  prow : PRow TP base B U pv prods
  bb : b < base
  wb : w.heap.size ≤ b
  le : base ≤ U.heap.size
  lB : B ≤ U.heap.size
  hT : T ≠ 9 ∧ T ≠ 3 ∧ T ≠ TP ∧ TP ≠ 3 ∧ TP ≠ 9
section
variable {T TP : Nat} {w U V X : World} {b base B : Nat} {start rules : Int} {names terms : List ByteArray} {prods : List (Int × List Int)} {nv tv pv : Value}
theorem GrW.ext' (h : GrW T TP w U b base B start rules names terms prods nv tv pv) (hx : Ext U V) : GrW T TP w V b base B start rules names terms prods nv tv pv :=
  ⟨h.ext.tr hx, hx.hp h.box, h.nrow.ext hx, h.trow.ext hx, h.dis, h.prow.ext hx, h.bb, h.wb, Nat.le_trans h.le hx.size, Nat.le_trans h.lB hx.size, h.hT⟩
theorem GrW.up (h : GrW T TP w U b base B start rules names terms prods nv tv pv) : GrW T TP w U b base U.heap.size start rules names terms prods nv tv pv :=
  ⟨h.ext, h.box, h.nrow, h.trow, h.dis, h.prow.up h.lB, h.bb, h.wb, h.le, Nat.le_refl _, h.hT⟩
/-- Another row, made later, has grown. -/
theorem GrW.keep (h : GrW T TP w U b base B start rules names terms prods nv tv pv) {row : Option Nat} (hg : U.grownBy V row) (hr : ∀ k, row = some k → B ≤ k ∧ base ≤ k ∧ nv.ownBlock ≠ some k ∧ tv.ownBlock ≠ some k ∧ pv.ownBlock ≠ some k) : GrW T TP w V b base B start rules names terms prods nv tv pv := by
  have hc : Chg (fun k => row = some k) U V := Chg.grown hg fun k hk => hk
  have hb := h.bb
  have hw := h.wb
  refine ⟨h.ext.chg hc fun x hx => by have := hr x hx; omega, hc.hp h.box fun hx => by have := hr b hx; omega, h.nrow.chg hc fun k hk hx => (hr k hx).2.2.1 hk, h.trow.chg hc fun k hk hx => (hr k hx).2.2.2.1 hk, h.dis, h.prow.chg hc (fun k hk hx => (hr k hx).2.2.2.2 hk) (fun k hk hx => by have := hr k hx; omega), h.bb, h.wb, Nat.le_trans h.le hc.size, Nat.le_trans h.lB hc.size, h.hT⟩
theorem GrW.sto (h : GrW T TP w V b base B start rules names terms prods nv tv pv) {row : Option Nat} (hg : V.grownBy X row) (hrow : row ≠ some b) {t : Nat} (ht : szT Try.prog t = some 1) (f : Nat) (hf : f < 5) {x : Value} (hx : x.oneCell' = true) :
    X.heap[b]? = some (.cells #[.int .i64 start, .int .i64 rules, nv, tv, pv] T (0, 0)) ∧ stoT Try.prog t X (pa (some ⟨b, 0, none⟩) f) x = some (X.setCell ⟨b, f, none⟩ x) ∧
      Chg (fun k => k = b ∨ row = some k) V (X.setCell ⟨b, f, none⟩ x) := by
  have hXb : X.heap[b]? = some (.cells #[.int .i64 start, .int .i64 rules, nv, tv, pv] T (0, 0)) := (hg.block b (lt_heap h.box) (fun e => hrow e.symm)).trans h.box
  have hst := sto_own (P := Try.prog) (T := t) (w := X) (g := b) (o := 0) (k := f) (x := x) ht hXb (by simpa using hf) hx
  rw [Nat.zero_add] at hst
  exact ⟨hXb, hst, (Chg.grown hg (M := fun k => k = b ∨ row = some k) fun k hk => .inr hk).tr (Chg.grown (row := some b) set_grown (M := fun k => k = b) fun k hk => by cases hk; rfl) fun x _ h => .inl h⟩
theorem GrW.name (h : GrW T TP w V b base B start rules names terms prods nv tv pv) {nv' : Value} {s : ByteArray} (hR : Row Value.string base 9 X nv' (names ++ [s])) (hg : V.grownBy X nv.ownBlock) (hv : nv'.ownBlock = nv.ownBlock ∨ ∃ b', nv'.ownBlock = some b' ∧ V.heap.size ≤ b') :
    stoT Try.prog 39 X (pa (some ⟨b, 0, none⟩) 2) nv' = some (X.setCell ⟨b, 2, none⟩ nv') ∧ GrW T TP w (X.setCell ⟨b, 2, none⟩ nv') b base B start rules (names ++ [s]) terms prods nv' tv pv := by
  obtain ⟨t1, t2, t3, t4, t5⟩ := h.hT
  obtain ⟨hXb, hst, hc⟩ := h.sto hg (h.nrow.ne h.box t1) (t := 39) (by simp only [ty]) 2 (by omega) hR.one
  have hbb := h.bb
  have hwb := h.wb
  refine ⟨hst, h.ext.chg hc ?_, ?_, hR.kept (row := some b) set_grown (.inr (hR.ne hXb t1)), h.trow.chg hc ?_, ?_, h.prow.chg hc ?_ ?_, h.bb, h.wb, Nat.le_trans h.le hc.size, Nat.le_trans h.lB hc.size, h.hT⟩
  · rintro x (rfl | hx)
    · exact h.wb
    · have := (h.nrow.lt x hx).1; omega
  · rw [heap_set_same, hXb]; rfl
  · rintro k hk (rfl | hx)
    · exact h.trow.ne h.box t1 hk
    · exact h.dis k hx hk
  · intro k hk hk2
    rcases hv with e | ⟨b', e, hb'⟩
    · exact h.dis k (e ▸ hk) hk2
    · rw [hk] at e; cases e; have := (h.trow.lt _ hk2).2; omega
  · rintro k hk (rfl | hx)
    · exact h.prow.ne h.box t3 hk
    · obtain ⟨cs, f, hq⟩ := h.nrow.typed hx
      exact h.prow.ne hq (fun e => t5 e.symm) hk
  · rintro k _ (rfl | hx)
    · exact ⟨_, _, _, t2, h.box⟩
    · obtain ⟨cs, f, hq⟩ := h.nrow.typed hx
      exact ⟨_, _, _, by decide, hq⟩
theorem GrW.term (h : GrW T TP w V b base B start rules names terms prods nv tv pv) {tv' : Value} {s : ByteArray} (hR : Row Value.string base 9 X tv' (terms ++ [s])) (hg : V.grownBy X tv.ownBlock) (hv : tv'.ownBlock = tv.ownBlock ∨ ∃ b', tv'.ownBlock = some b' ∧ V.heap.size ≤ b') :
    stoT Try.prog 39 X (pa (some ⟨b, 0, none⟩) 3) tv' = some (X.setCell ⟨b, 3, none⟩ tv') ∧ GrW T TP w (X.setCell ⟨b, 3, none⟩ tv') b base B start rules names (terms ++ [s]) prods nv tv' pv := by
  obtain ⟨t1, t2, t3, t4, t5⟩ := h.hT
  obtain ⟨hXb, hst, hc⟩ := h.sto hg (h.trow.ne h.box t1) (t := 39) (by simp only [ty]) 3 (by omega) hR.one
  have hbb := h.bb
  have hwb := h.wb
  refine ⟨hst, h.ext.chg hc ?_, ?_, h.nrow.chg hc ?_, hR.kept (row := some b) set_grown (.inr (hR.ne hXb t1)), ?_, h.prow.chg hc ?_ ?_, h.bb, h.wb, Nat.le_trans h.le hc.size, Nat.le_trans h.lB hc.size, h.hT⟩
  · rintro x (rfl | hx)
    · exact h.wb
    · have := (h.trow.lt x hx).1; omega
  · rw [heap_set_same, hXb]; rfl
  · rintro k hk (rfl | hx)
    · exact h.nrow.ne h.box t1 hk
    · exact h.dis k hk hx
  · intro k hk hk2
    rcases hv with e | ⟨b', e, hb'⟩
    · exact h.dis k hk (e ▸ hk2)
    · rw [hk2] at e; cases e; have := (h.nrow.lt _ hk).2; omega
  · rintro k hk (rfl | hx)
    · exact h.prow.ne h.box t3 hk
    · obtain ⟨cs, f, hq⟩ := h.trow.typed hx
      exact h.prow.ne hq (fun e => t5 e.symm) hk
  · rintro k _ (rfl | hx)
    · exact ⟨_, _, _, t2, h.box⟩
    · obtain ⟨cs, f, hq⟩ := h.trow.typed hx
      exact ⟨_, _, _, by decide, hq⟩
theorem GrW.prod (h : GrW T TP w V b base B start rules names terms prods nv tv pv) {pv' : Value} {p : Int × List Int} {t : Nat} (ht : szT Try.prog t = some 1) (hR : PRow TP base V.heap.size X pv' (prods ++ [p])) (hg : V.grownBy X pv.ownBlock) :
    stoT Try.prog t X (pa (some ⟨b, 0, none⟩) 4) pv' = some (X.setCell ⟨b, 4, none⟩ pv') ∧ GrW T TP w (X.setCell ⟨b, 4, none⟩ pv') b base V.heap.size start rules names terms (prods ++ [p]) nv tv pv' := by
  obtain ⟨t1, t2, t3, t4, t5⟩ := h.hT
  obtain ⟨hXb, hst, hc⟩ := h.sto hg (h.prow.ne h.box t3) (t := t) ht 4 (by omega) hR.one
  have hbb := h.bb
  have hwb := h.wb
  refine ⟨hst, h.ext.chg hc ?_, ?_, h.nrow.chg hc ?_, h.trow.chg hc ?_, h.dis, ?_, h.bb, h.wb, Nat.le_trans h.le hc.size, hc.size, h.hT⟩
  · rintro x (rfl | hx)
    · exact h.wb
    · have := (h.prow.lt x hx).1; omega
  · rw [heap_set_same, hXb]; rfl
  · rintro k hk (rfl | hx)
    · exact h.nrow.ne h.box t1 hk
    · obtain ⟨cs, f, hq⟩ := h.prow.typed hx
      exact h.nrow.ne hq t5 hk
  · rintro k hk (rfl | hx)
    · exact h.trow.ne h.box t1 hk
    · obtain ⟨cs, f, hq⟩ := h.prow.typed hx
      exact h.trow.ne hq t5 hk
  · refine hR.chg (Chg.grown (row := some b) set_grown (M := fun k => k = b) fun k hk => by cases hk; rfl) (fun k hk hm => ?_) fun k _ hm => ?_
    · subst hm; exact hR.ne hXb t3 hk
    · subst hm; exact ⟨_, _, _, t2, hXb⟩
end
/-- A copy's box: its rows of names and terminals stand, its productions grow. -/
structure GrP (T TP : Nat) (w U : World) (b B : Nat) (start rules : Int) (names terms : List ByteArray) (prods : List (Int × List Int)) (nv tv pv : Value) : Prop where
  ext : Ext w U
  box : U.heap[b]? = some (.cells #[.int .i64 start, .int .i64 rules, nv, tv, pv] T (0, 0))
  nrow : Row Value.string w.heap.size 9 U nv names
  trow : Row Value.string w.heap.size 9 U tv terms
  prow : PRow TP w.heap.size B U pv prods
  wb : w.heap.size ≤ b
  lB : B ≤ U.heap.size
  hT : T ≠ 9 ∧ T ≠ 3 ∧ T ≠ TP ∧ TP ≠ 3 ∧ TP ≠ 9
section
variable {T TP : Nat} {w U V X : World} {b B : Nat} {start rules : Int} {names terms : List ByteArray} {prods : List (Int × List Int)} {nv tv pv : Value}
theorem GrP.ext' (h : GrP T TP w U b B start rules names terms prods nv tv pv) (hx : Ext U V) : GrP T TP w V b B start rules names terms prods nv tv pv :=
  ⟨h.ext.tr hx, hx.hp h.box, h.nrow.ext hx, h.trow.ext hx, h.prow.ext hx, h.wb, Nat.le_trans h.lB hx.size, h.hT⟩
theorem GrP.up (h : GrP T TP w U b B start rules names terms prods nv tv pv) : GrP T TP w U b U.heap.size start rules names terms prods nv tv pv :=
  ⟨h.ext, h.box, h.nrow, h.trow, h.prow.up h.lB, h.wb, Nat.le_refl _, h.hT⟩
theorem GrP.prod (h : GrP T TP w V b B start rules names terms prods nv tv pv) {pv' : Value} {p : Int × List Int} {t : Nat} (ht : szT Try.prog t = some 1) (hR : PRow TP w.heap.size V.heap.size X pv' (prods ++ [p])) (hg : V.grownBy X pv.ownBlock) :
    stoT Try.prog t X (pa (some ⟨b, 0, none⟩) 4) pv' = some (X.setCell ⟨b, 4, none⟩ pv') ∧ GrP T TP w (X.setCell ⟨b, 4, none⟩ pv') b V.heap.size start rules names terms (prods ++ [p]) nv tv pv' := by
  obtain ⟨t1, t2, t3, t4, t5⟩ := h.hT
  have hrow := h.prow.ne h.box t3
  have hXb : X.heap[b]? = some (.cells #[.int .i64 start, .int .i64 rules, nv, tv, pv] T (0, 0)) := (hg.block b (lt_heap h.box) (fun e => hrow e.symm)).trans h.box
  have hst := sto_own (P := Try.prog) (T := t) (w := X) (g := b) (o := 0) (k := 4) (x := pv') ht hXb (by simp) hR.one
  rw [Nat.zero_add] at hst
  have hc : Chg (fun k => k = b ∨ pv.ownBlock = some k) V (X.setCell ⟨b, 4, none⟩ pv') := (Chg.grown hg (M := fun k => k = b ∨ pv.ownBlock = some k) fun k hk => .inr hk).tr (Chg.grown (row := some b) set_grown (M := fun k => k = b) fun k hk => by cases hk; rfl) fun x _ h => .inl h
  have hwb := h.wb
  refine ⟨hst, h.ext.chg hc ?_, ?_, h.nrow.chg hc ?_, h.trow.chg hc ?_, ?_, h.wb, hc.size, h.hT⟩
  · rintro x (rfl | hx)
    · exact h.wb
    · exact (h.prow.lt x hx).1
  · rw [heap_set_same, hXb]; rfl
  · rintro k hk (rfl | hx)
    · exact h.nrow.ne h.box t1 hk
    · obtain ⟨cs, f, hq⟩ := h.prow.typed hx
      exact h.nrow.ne hq t5 hk
  · rintro k hk (rfl | hx)
    · exact h.trow.ne h.box t1 hk
    · obtain ⟨cs, f, hq⟩ := h.prow.typed hx
      exact h.trow.ne hq t5 hk
  · refine hR.chg (Chg.grown (row := some b) set_grown (M := fun k => k = b) fun k hk => by cases hk; rfl) (fun k hk hm => ?_) fun k _ hm => ?_
    · subst hm; exact hR.ne hXb t3 hk
    · subst hm; exact ⟨_, _, _, t2, hXb⟩
end
/-- A remainder made whole. -/
theorem modI (s : Int) (n : Nat) (hn : 1 ≤ n) : (-(n : Int) < s.tmod n ∧ s.tmod n < n) ∧ ∃ r : Nat, r < n ∧ (s.tmod n + n).tmod n = (r : Int) := by
  have h1 : -(n : Int) < s.tmod n ∧ s.tmod n < n := by
    have h3 := Int.tmod_lt_of_pos s (show (0 : Int) < (n : Int) by omega)
    have h4 : -(n : Int) < s.tmod n := by
      have := Int.tmod_lt_of_pos (-s) (show (0 : Int) < (n : Int) by omega)
      rw [Int.neg_tmod] at this
      omega
    exact ⟨h4, h3⟩
  refine ⟨h1, ?_⟩
  have h5 : 0 ≤ s.tmod n + n := by omega
  have h6 := Int.tmod_lt_of_pos (s.tmod n + n) (show (0 : Int) < (n : Int) by omega)
  have h7 : 0 ≤ (s.tmod n + n).tmod n := Int.tmod_nonneg _ h5
  exact ⟨((s.tmod n + n).tmod n).toNat, by omega, by omega⟩
def nm1 (c i : Nat) : ByteArray := strOf [((c + i : Nat) : Int)]
theorem nm1_ok (c i : Nat) : nm1 c i ≠ ByteArray.empty ∧ ((nm1 c i).size : Int) ≤ 16 := by
  have : (nm1 c i).size = 1 := rfl
  refine ⟨fun h => ?_, by omega⟩
  rw [h] at this; cases this
theorem nm65 : ((List.range 8).map (nm1 65)).Nodup := by decide +kernel
theorem nm97 : ((List.range 8).map (nm1 97)).Nodup := by decide +kernel
theorem nm1_dist {c n : Nat} (hc : ((List.range 8).map (nm1 c)).Nodup) (hn : n ≤ 8) {m : Int} (hm : 16 ≤ m) : Dist ((List.range n).map (nm1 c)) m := by
  refine ⟨hc.sublist (List.Sublist.map _ (List.range_sublist.2 hn)), fun s hs => ?_⟩
  obtain ⟨j, _, rfl⟩ := List.mem_map.1 hs
  have := nm1_ok c j
  exact ⟨this.1, by omega⟩
theorem rng_snoc {α : Type} (f : Nat → α) (i : Nat) : (List.range (i + 1)).map f = (List.range i).map f ++ [f i] := by simp [List.range_succ]
/-- Small and sound. -/
def NiceG (g : PG) (mx lim side : Nat) : Prop := SoundP g ∧ SmallP g ∧ g.names.length ≤ mx ∧ g.terms.length ≤ 3 ∧ g.prods.length ≤ mx * lim ∧ ∀ p ∈ g.prods, p.2.length ≤ side
/-- The productions so far. -/
structure PrS (n t side lf cnt : Nat) (l : List (Int × List Int)) : Prop where
  bnd : ∀ p ∈ l, (0 ≤ p.1 ∧ p.1 < lf) ∧ p.2.length ≤ side ∧ ∀ s ∈ p.2, -(t : Int) ≤ s ∧ s < n
  srt : ∀ (i : Nat) (h : i + 1 < l.length), l[i].1 ≤ l[i + 1].1
  cnt : l.length ≤ cnt
theorem PrS.nil (n t side lf cnt : Nat) : PrS n t side lf cnt [] := ⟨by simp, by simp, by simp⟩
theorem PrS.mono {n t side lf cnt lf' cnt' : Nat} {l : List (Int × List Int)} (h : PrS n t side lf cnt l) (h1 : lf ≤ lf') (h2 : cnt ≤ cnt') : PrS n t side lf' cnt' l :=
  ⟨fun p hp => ⟨⟨(h.bnd p hp).1.1, by have := (h.bnd p hp).1.2; omega⟩, (h.bnd p hp).2⟩, h.srt, by have := h.cnt; omega⟩
theorem PrS.push {n t side lf cnt : Nat} {l : List (Int × List Int)} (h : PrS n t side (lf + 1) cnt l) {r : List Int} (hr : r.length ≤ side) (hs : ∀ s ∈ r, -(t : Int) ≤ s ∧ s < n) : PrS n t side (lf + 1) (cnt + 1) (l ++ [((lf : Int), r)]) := by
  refine ⟨fun p hp => ?_, fun i hi => ?_, by have := h.cnt; simp; omega⟩
  · rcases List.mem_append.1 hp with hp | hp
    · exact h.bnd p hp
    · simp at hp; subst hp
      exact ⟨⟨by simp, by simp; omega⟩, hr, hs⟩
  · simp only [List.length_append, List.length_cons, List.length_nil] at hi
    by_cases e : i + 1 < l.length
    · rw [List.getElem_append_left (by omega), List.getElem_append_left e]
      exact h.srt i e
    · rw [List.getElem_append_left (by omega), List.getElem_append_right (by omega)]
      have := (h.bnd l[i] (List.getElem_mem _)).1.2
      simp; omega
theorem nice_of {start rules : Int} {n t side lim mx : Nat} {prods : List (Int × List Int)} (hn : 1 ≤ n) (hn8 : n ≤ mx) (hmx : mx ≤ 8) (ht : t ≤ 3) (hs0 : 0 ≤ start) (hs1 : start < n) (hr : rules = n) (hP : PrS n t side n (n * lim) prods) (hl : lim ≤ 24) (hside : side ≤ 6) :
    NiceG ⟨start, rules, (List.range n).map (nm1 65), (List.range t).map (nm1 97), prods⟩ mx lim side := by
  subst hr
  have h1 : n * lim ≤ mx * lim := Nat.mul_le_mul_right _ hn8
  have h2 : mx * lim ≤ 8 * 24 := Nat.mul_le_mul hmx hl
  have hc := hP.cnt
  have hnl : ((List.range n).map (nm1 65)).length = n := by simp
  have htl : ((List.range t).map (nm1 97)).length = t := by simp
  refine ⟨⟨⟨by simp; omega, by simp; omega, by simp, by simp, nm1_dist nm65 (by omega) (by omega)⟩, ⟨by simp; omega, nm1_dist nm97 (by omega) (by omega), by simp; omega, hs0, by simpa using hs1⟩, fun i hi => ?_⟩, ⟨by simp; omega, by simp; omega, by simp; omega, fun p hp => ?_⟩, by simpa using hn8, by simpa using ht, by simp; omega, fun p hp => (hP.bnd p hp).2.1⟩
  · have hi' : i < prods.length := hi
    obtain ⟨⟨a1, a2⟩, a3, a4⟩ := hP.bnd prods[i] (List.getElem_mem _)
    refine ⟨a1, by simpa using a2, by show prods[i].2.length ≤ 16; omega, fun h0 => ?_, fun s hs => ?_⟩
    · have hD : prods.getD (i - 1) (0, []) = prods[i - 1] := by simp [List.getD_eq_getElem?_getD, List.getElem?_eq_getElem (show i - 1 < prods.length by omega)]
      show (prods.getD (i - 1) (0, [])).1 ≤ prods[i].1
      rw [hD]
      have := hP.srt (i - 1) (by omega)
      simpa [show i - 1 + 1 = i by omega] using this
    · have := a4 s hs
      simp only [hnl, htl]
      omega
  · have := (hP.bnd p hp).2.1; omega
end Go.Proofs.Ytgioklmpnbnplaa
