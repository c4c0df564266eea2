/- The terminals with which words begin: the plain law, and a matrix of bits that a call makes itself; The walk of the reference's First; What facts.First reckons tells the first terminals: the plain law; The rows and maps of facts.First after so many productions; The end of facts.First: what the maps hold together; Ascending rows of numbers and rows of bits. Conditions: none. -/
import Derived.Test.YtgioklmpnbnplaaFa1
import Derived.Test.YtgioklmpnbnplaaKr2
import Derived.Test.YtgioklmpnbnplaaFa2
set_option linter.unusedSimpArgs false
set_option linter.unusedVariables false
set_option maxRecDepth 100000
namespace Go.Proofs.Ytgioklmpnbnplaa
open Go.V

/-- A production all of whose symbols derive a word. -/
def Usable (ps : List (Int × List Int)) (r : List Int) : Prop := ∀ s ∈ r, 0 ≤ s → Gen true ps s
/-- The first places derive the empty word. -/
def Empties (ps : List (Int × List Int)) (r : List Int) (i : Nat) : Prop := ∀ j x, j < i → r[j]? = some x → 0 ≤ x ∧ Gen false ps x
/-- A word of the nonterminal begins with the terminal. -/
inductive Fst (ps : List (Int × List Int)) : Int → Nat → Prop
  | term (p : Int × List Int) (hp : p ∈ ps) (hu : Usable ps p.2) (i : Nat) (s : Int) (hi : p.2[i]? = some s) (hn : Empties ps p.2 i) (t : Nat) (ht : s = -1 - (t : Int)) : Fst ps p.1 t
  | more (p : Int × List Int) (hp : p ∈ ps) (hu : Usable ps p.2) (i : Nat) (s : Int) (hi : p.2[i]? = some s) (hn : Empties ps p.2 i) (t : Nat) (h0 : 0 ≤ s) (h : Fst ps s t) : Fst ps p.1 t
/-- A bit of a matrix. -/
def bit (F : List (List Bool)) (a t : Nat) : Prop := ∃ r, F[a]? = some r ∧ r[t]? = some true
/-- All that a production says is in the matrix, from the places before i. -/
def ClosF (ps : List (Int × List Int)) (nt : Nat) (F : List (List Bool)) (p : Int × List Int) (i : Nat) : Prop :=
  Usable ps p.2 → ∀ j s, j < i → p.2[j]? = some s → Empties ps p.2 j → ∀ t : Nat, t < nt → (s = -1 - (t : Int) ∨ 0 ≤ s ∧ bit F s.toNat t) → bit F p.1.toNat t
theorem fst_bit {ps : List (Int × List Int)} {nt : Nat} {F : List (List Bool)} (hc : ∀ p ∈ ps, ClosF ps nt F p p.2.length) {a : Int} {t : Nat} (h : Fst ps a t) (ht : t < nt) : bit F a.toNat t := by
  induction h with
  | term p hp hu i s hi hn t e => exact hc p hp hu i s (List.getElem?_eq_some_iff.1 hi).1 hi hn t ht (.inl e)
  | more p hp hu i s hi hn t h0 h ih => exact hc p hp hu i s (List.getElem?_eq_some_iff.1 hi).1 hi hn t ht (.inr ⟨h0, ih ht⟩)
/-- The matrix tells the first terminals of each nonterminal. -/
def TellsF (n nt : Nat) (ps : List (Int × List Int)) (F : List (List Bool)) : Prop := F.length = n ∧ (∀ r ∈ F, r.length = nt) ∧ ∀ a t : Nat, a < n → t < nt → (bit F a t ↔ Fst ps a t)

theorem short_gen {n : Nat} {ps : List (Int × List Int)} {l : List Int} (h : Short n ps l) {i : Nat} (hi : i < l.length) : 0 ≤ l[i] ↔ Gen true ps i := by
  constructor
  · intro h0
    rcases h.2.1 i _ (List.getElem?_eq_getElem hi) with h1 | ⟨m, h1, _, h2⟩
    · omega
    · exact h2.gen
  · intro h0
    obtain ⟨m, hm⟩ := h0.cost
    obtain ⟨k, h1, _⟩ := h.2.2 i m hm
    rw [List.getElem?_eq_getElem hi] at h1
    simp only [Option.some.injEq] at h1
    omega
theorem Empties.mono {ps : List (Int × List Int)} {r : List Int} {i j : Nat} (h : Empties ps r j) (hij : i ≤ j) : Empties ps r i := fun x y hx hy => h x y (by omega) hy
theorem Empties.next {ps : List (Int × List Int)} {r : List Int} {i : Nat} {s : Int} (hs : r[i]? = some s) : Empties ps r (i + 1) ↔ Empties ps r i ∧ 0 ≤ s ∧ Gen false ps s := by
  constructor
  · intro h; exact ⟨h.mono (by omega), h i s (by omega) hs⟩
  · rintro ⟨h1, h2⟩ j x hj hx
    by_cases e : j = i
    · subst e; rw [hs] at hx; simp only [Option.some.injEq] at hx; subst hx; exact h2
    · exact h1 j x (by omega) hx
theorem ClosF.stop {ps : List (Int × List Int)} {nt : Nat} {F : List (List Bool)} {p : Int × List Int} {i : Nat} (h : ClosF ps nt F p i) (hn : ¬ (Usable ps p.2 ∧ Empties ps p.2 i)) (m : Nat) : ClosF ps nt F p m := fun hu j s hj hs he t ht hh => by
  by_cases e : j < i
  · exact h hu j s e hs he t ht hh
  · exact absurd ⟨hu, he.mono (by omega)⟩ hn
theorem bit_iff {F : List (List Bool)} {a t : Nat} {r : List Bool} {y : Bool} (h : F[a]? = some r) (hy : r[t]? = some y) : bit F a t ↔ y = true := by
  constructor
  · rintro ⟨q, h1, h2⟩
    rw [h] at h1; simp only [Option.some.injEq] at h1; subst h1
    rw [hy] at h2; simpa using h2
  · intro e; subst e; exact ⟨r, h, hy⟩

/-! a matrix of the call's own -/
def encM (m : Nat) (g : Nat) : Value := .slice (some ⟨g, 0, none⟩) m m
structure Mat (T : TypeId) (base : Nat) (U : World) (gs : List Nat) (F : List (List Bool)) : Prop where
  len : gs.length = F.length
  nd : gs.Nodup
  low : ∀ g ∈ gs, base ≤ g
  own : ∀ (i g : Nat) (r : List Bool), gs[i]? = some g → F[i]? = some r → Own .bool T U g r
section
variable {T : TypeId} {base : Nat} {U V : World} {gs : List Nat} {F : List (List Bool)}
theorem Mat.nil (T : TypeId) (base : Nat) (U : World) : Mat T base U [] [] := ⟨rfl, by simp, by simp, fun i g r h => by simp at h⟩
theorem Mat.lt (h : Mat T base U gs F) {g : Nat} (hg : g ∈ gs) : g < U.heap.size := by
  obtain ⟨i, hi, rfl⟩ := List.mem_iff_getElem.1 hg
  exact (h.own i _ _ (List.getElem?_eq_getElem hi) (List.getElem?_eq_getElem (h.len ▸ hi))).lt
theorem Mat.kept (h : Mat T base U gs F) (hk : ∀ g ∈ gs, V.heap[g]? = U.heap[g]?) : Mat T base V gs F :=
  ⟨h.len, h.nd, h.low, fun i g r h1 h2 => (h.own i g r h1 h2).hp (hk g (List.mem_of_getElem? h1))⟩
theorem Mat.ext (h : Mat T base U gs F) (hx : Ext U V) : Mat T base V gs F := h.kept fun g hg => hx.block g (h.lt hg)
theorem Mat.push (h : Mat T base U gs F) {g : Nat} {r : List Bool} (hg : base ≤ g) (hn : ∀ x ∈ gs, x ≠ g) (ho : Own .bool T U g r) : Mat T base U (gs ++ [g]) (F ++ [r]) := by
  refine ⟨by simp [h.len], ?_, fun x hx => ?_, fun i x q h1 h2 => ?_⟩
  · rw [List.nodup_append]; exact ⟨h.nd, by simp, fun x hx y hy => by simp at hy; subst hy; exact hn x hx⟩
  · rcases List.mem_append.1 hx with hx | hx
    · exact h.low x hx
    · simp at hx; subst hx; exact hg
  · by_cases e : i < gs.length
    · rw [List.getElem?_append_left e] at h1
      rw [List.getElem?_append_left (h.len ▸ e)] at h2
      exact h.own i x q h1 h2
    · rw [List.getElem?_append_right (by omega)] at h1
      rw [List.getElem?_append_right (by have := h.len; omega), ← h.len] at h2
      have e2 : i - gs.length = 0 := by have := (List.getElem?_eq_some_iff.1 h1).1; simp at this; omega
      rw [e2] at h1 h2
      simp at h1 h2
      subst h1 h2; exact ho
theorem Mat.set (h : Mat T base U gs F) {i g : Nat} {r : List Bool} (hg : gs[i]? = some g) (hr : F[i]? = some r) (j : Nat) : Mat T base (U.setCell ⟨g, j, none⟩ (.bool true)) gs (F.set i (r.set j true)) := by
  refine ⟨by simpa using h.len, h.nd, h.low, fun k x q h1 h2 => ?_⟩
  rw [List.getElem?_set] at h2
  by_cases e : i = k
  · subst e
    rw [hg] at h1; simp only [Option.some.injEq] at h1; subst h1
    rw [if_pos rfl, if_pos (List.getElem?_eq_some_iff.1 hr).1] at h2
    simp only [Option.some.injEq] at h2; subst h2
    exact (h.own i g r hg hr).set j true
  · rw [if_neg e] at h2
    have hne : x ≠ g := by
      intro e2; subst e2
      obtain ⟨hi, e3⟩ := List.getElem?_eq_some_iff.1 hg
      obtain ⟨hk, e4⟩ := List.getElem?_eq_some_iff.1 h1
      have hp := List.pairwise_iff_getElem.1 h.nd
      rcases Nat.lt_or_gt_of_ne e with hl | hl
      · exact hp i k hi hk hl (e3.trans e4.symm)
      · exact hp k i hk hi hl (e4.trans e3.symm)
    exact (h.own k x q h1 h2).hp (heap_set _ hne)
end
theorem row_rd {α : Type} {enc : α → Value} {base e : Nat} {w : World} {A : Option Addr} {n c : Nat} {l : List α} (h : Row enc base e w (.slice A n c) l) (i : Nat) (hi : i < l.length) : rd w A i = some (enc l[i]) := by
  obtain ⟨A', c', he, _, hr⟩ := h.sq
  cases he; exact hr i hi
/-- How many bits are not set. -/
def zeros (F : List (List Bool)) : Nat := (F.map falses).sum
theorem zeros_set : ∀ {F : List (List Bool)} {i : Nat} {r : List Bool} {j : Nat}, F[i]? = some r → r[j]? = some false → zeros (F.set i (r.set j true)) + 1 = zeros F
  | [], i, r, j, h, _ => by simp at h
  | q :: F, 0, r, j, h, hj => by
    simp at h; subst h
    have := falses_set hj
    simp only [List.set_cons_zero, zeros, List.map_cons, List.sum_cons] at *
    omega
  | q :: F, i + 1, r, j, h, hj => by
    have := zeros_set (F := F) (i := i) (by simpa using h) hj
    simp only [List.set_cons_succ, zeros, List.map_cons, List.sum_cons] at *
    omega
theorem bit_set {F : List (List Bool)} {i : Nat} {r : List Bool} {j : Nat} (h : F[i]? = some r) (hj : j < r.length) {a t : Nat} : bit (F.set i (r.set j true)) a t ↔ (a = i ∧ t = j) ∨ bit F a t := by
  unfold bit
  by_cases e : i = a
  · subst e
    have hi := (List.getElem?_eq_some_iff.1 h).1
    constructor
    · rintro ⟨q, h1, h2⟩
      rw [List.getElem?_set, if_pos rfl, if_pos hi] at h1
      simp only [Option.some.injEq] at h1; subst h1
      rw [List.getElem?_set] at h2
      by_cases e2 : j = t
      · exact .inl ⟨rfl, e2.symm⟩
      · rw [if_neg e2] at h2; exact .inr ⟨r, h, h2⟩
    · intro hh
      refine ⟨r.set j true, by rw [List.getElem?_set, if_pos rfl, if_pos hi], ?_⟩
      rw [List.getElem?_set]
      by_cases e2 : j = t
      · rw [if_pos e2, if_pos hj]
      · rw [if_neg e2]
        rcases hh with ⟨_, e3⟩ | ⟨q, h1, h2⟩
        · exact absurd e3.symm e2
        · rw [h] at h1; simp only [Option.some.injEq] at h1; subst h1; exact h2
  · constructor
    · rintro ⟨q, h1, h2⟩
      rw [List.getElem?_set, if_neg e] at h1
      exact .inr ⟨q, h1, h2⟩
    · rintro (⟨e2, _⟩ | ⟨q, h1, h2⟩)
      · exact absurd e2.symm e
      · exact ⟨q, by rw [List.getElem?_set, if_neg e]; exact h1, h2⟩
end Go.Proofs.Ytgioklmpnbnplaa
namespace Go.Proofs.Ytgioklmpnbnplaa
open Go.V

set_option maxHeartbeats 4000000 in
theorem rfirst_ok (v : Value) (g : PG) (w : World) (hg : RepPG w v g) (hS : SoundP g) (hs : SmallP g) :
    Ok Try.prog 51 #[v] w fun v w' => (∃ F, Go.V.Rows Value.bool w' v F ∧ TellsF g.names.length g.terms.length g.prods F) ∧ Ext w w' := by
  have hg0 := hg
  have hs0 := hs
  obtain ⟨nv, tv, pv, rfl, hN, hT, hp⟩ := hg
  obtain ⟨A, a, rfl, ha, hA⟩ := hN
  obtain ⟨TA, tcap, rfl, hta, hTA⟩ := hT
  obtain ⟨C, c, rfl, hc, hC⟩ := hp
  obtain ⟨s1, s2, s3, s4⟩ := hs
  have hin := hS.inR
  have hn256 := hS.1.2.1
  have ht256 := hS.2.1.1
  (refine Ok.enter Try.func51 rfl (by kernel_rfl) (Nat.le_of_ble_eq_true rfl) ?_; simp only [Try.f51, S7])
  simp (disch := first | omega | assumption | (simp only [O1, World.size_alloc, World.size_setCell, World.size_drew]; first | done | omega)) only [O1, D2, ↓H0, S0, ↓S1, ↓S2, ↓S3, ↓S4, S5, S5b, S5c, ↓S6, S6b, M0, E0, ty, tl, te, tc, i64_wrap, u64_wrap, iaV_sl, iaV_arr, faV_pa, nck_pa, heap_new, heap_old, heap_set, ↓reduceIte, Nat.reduceEqDiff, Nat.reduceLT, Nat.reduceAdd, Int.reduceLT, Int.reduceLE, decide_false, decide_true, dec_true, dec_false, true_and, and_true, true_imp_iff, Bool.not_true, Bool.not_false, Option.map_none, Int.reduceToNat, Int.toNat_zero, Int.toNat_one, lkV_false, lkV_true]
  have hx0 := (Ext.rfl' w).al (.cells #[.int .i64 g.start, .int .i64 g.rules, .slice A g.names.length a, .slice TA g.terms.length tcap, .slice C g.prods.length c] 49)
  have hb0 := heap_new (w := w) (.cells #[.int .i64 g.start, .int .i64 g.rules, .slice A g.names.length a, .slice TA g.terms.length tcap, .slice C g.prods.length c] 49) rfl
  generalize w.alloc (.cells #[.int .i64 g.start, .int .i64 g.rules, .slice A g.names.length a, .slice TA g.terms.length tcap, .slice C g.prods.length c] 49) = W at hx0 hb0 ⊢
  have hbd : W.drew.heap[w.heap.size]? = _ := hb0
  have hxd := (Ext.rfl' W).dr
  refine Dr_plan [] (fun _ => true) [0, 2, 1, 3, 4, 5] mixed (by kernel_rfl) ?_
  simp (disch := first | omega | assumption | (simp only [O1, World.size_alloc, World.size_setCell, World.size_drew]; first | done | omega)) only [↓D1, ↓D3, ↓D4, List.not_mem_nil, not_false_eq_true, Bool.false_eq_true, false_imp_iff, upto, O1, D2, ↓H0, S0, ↓S1, ↓S2, ↓S3, ↓S4, S5, S5b, S5c, ↓S6, S6b, M0, E0, ty, tl, te, tc, i64_wrap, u64_wrap, iaV_sl, iaV_arr, faV_pa, nck_pa, heap_new, heap_old, heap_set, ↓reduceIte, Nat.reduceEqDiff, Nat.reduceLT, Nat.reduceAdd, Int.reduceLT, Int.reduceLE, decide_false, decide_true, dec_true, dec_false, true_and, and_true, true_imp_iff, Bool.not_true, Bool.not_false, Option.map_none, Int.reduceToNat, Int.toNat_zero, Int.toNat_one, lkV_false, lkV_true, hb0, hbd, ldA5]
  refine (rnull_ok _ g _ (hg0.ext (hx0.tr hxd)) hS hs0).then ?_
  rintro _ X1 ⟨⟨nl, hnl, hTl⟩, hx1⟩
  have hK1 := Keep.of_ext hx1 []
  simp (disch := first | omega | assumption | (simp only [O1, World.size_alloc, World.size_setCell, World.size_drew]; first | done | omega)) only [↓D1, ↓D3, ↓D4, List.not_mem_nil, not_false_eq_true, Bool.false_eq_true, false_imp_iff, upto, O1, D2, ↓H0, S0, ↓S1, ↓S2, ↓S3, ↓S4, S5, S5b, S5c, ↓S6, S6b, M0, E0, ty, tl, te, tc, i64_wrap, u64_wrap, iaV_sl, iaV_arr, faV_pa, nck_pa, heap_new, heap_old, heap_set, ↓reduceIte, Nat.reduceEqDiff, Nat.reduceLT, Nat.reduceAdd, Int.reduceLT, Int.reduceLE, decide_false, decide_true, dec_true, dec_false, true_and, and_true, true_imp_iff, Bool.not_true, Bool.not_false, Option.map_none, Int.reduceToNat, Int.toNat_zero, Int.toNat_one, lkV_false, lkV_true, hK1]
  refine (rshort_ok _ g _ (hg0.ext ((hx0.tr hxd).tr hx1)) hS hs0).then ?_
  rintro _ W0 ⟨⟨l, hl, hSh⟩, hx2⟩
  have hK2 := Keep.of_ext hx2 []
  have hxW := ((hx0.tr hxd).tr hx1).tr hx2
  have hbW : W0.heap[w.heap.size]? = _ := ((hxd.tr hx1).tr hx2).hp hb0
  have hnW := hnl.ext hx2
  obtain ⟨NA, nc, rfl, hnc, hNA⟩ := hnW
  obtain ⟨LA, lc, rfl, hlc, hLA⟩ := hl
  have hws := lt_heap hbW
  simp (disch := first | omega | assumption | (simp only [O1, World.size_alloc, World.size_setCell, World.size_drew]; first | done | omega)) only [↓D1, ↓D3, ↓D4, List.not_mem_nil, not_false_eq_true, Bool.false_eq_true, false_imp_iff, upto, O1, D2, ↓H0, S0, ↓S1, ↓S2, ↓S3, ↓S4, S5, S5b, S5c, ↓S6, S6b, M0, E0, ty, tl, te, tc, i64_wrap, u64_wrap, iaV_sl, iaV_arr, faV_pa, nck_pa, heap_new, heap_old, heap_set, ↓reduceIte, Nat.reduceEqDiff, Nat.reduceLT, Nat.reduceAdd, Int.reduceLT, Int.reduceLE, decide_false, decide_true, dec_true, dec_false, true_and, and_true, true_imp_iff, Bool.not_true, Bool.not_false, Option.map_none, Int.reduceToNat, Int.toNat_zero, Int.toNat_one, lkV_false, lkV_true, hK2]
  clear hx0 hb0 hbd hxd hx1 hx2 hK1 hK2 hnl
  refine ⟨fun k t U => ∃ (i : Nat) (rv : Value) (gs : List Nat) (F : List (List Bool)), k + i = g.names.length ∧ Ext W0 U ∧ Row (encM g.terms.length) W0.heap.size 53 U rv gs ∧ Mat 4 W0.heap.size U gs F ∧ F.length = i ∧ (∀ r ∈ F, r = List.replicate g.terms.length false) ∧ t 1 = pa (some ⟨w.heap.size, 0, none⟩) 0 ∧ t 3 = .slice NA nl.length nc ∧ t 4 = .slice LA l.length lc ∧ t 5 = rv ∧ t 6 = .int .i64 i,
    ⟨g.names.length, 0, _, [], [], by omega, Ext.rfl' W0, Row.nil _, Mat.nil _ _ _, rfl, by simp, ?_⟩, ?_⟩
  · simp (disch := first | omega | assumption | (simp only [O1, World.size_alloc, World.size_setCell, World.size_drew]; first | done | omega)) only [O1, D2, ↓H0, S0, ↓S1, ↓S2, ↓S3, ↓S4, S5, S5b, S5c, ↓S6, S6b, M0, E0, ty, tl, te, tc, i64_wrap, u64_wrap, iaV_sl, iaV_arr, faV_pa, nck_pa, heap_new, heap_old, heap_set, ↓reduceIte, Nat.reduceEqDiff, Nat.reduceLT, Nat.reduceAdd, Int.reduceLT, Int.reduceLE, decide_false, decide_true, dec_true, dec_false, true_and, and_true, true_imp_iff, Bool.not_true, Bool.not_false, Option.map_none, Int.reduceToNat, Int.toNat_zero, Int.toNat_one, lkV_false, lkV_true] <;> rfl
  rintro k t U ⟨i, rv, gs, F, hk, hx, hR, hM, hFl, hFr, f1, f3, f4, f5, f6⟩
  have hbx := hx.hp hbW
  simp (disch := first | omega | assumption | (simp only [O1, World.size_alloc, World.size_setCell, World.size_drew]; first | done | omega)) only [O1, D2, ↓H0, S0, ↓S1, ↓S2, ↓S3, ↓S4, S5, S5b, S5c, ↓S6, S6b, M0, E0, ty, tl, te, tc, i64_wrap, u64_wrap, iaV_sl, iaV_arr, faV_pa, nck_pa, heap_new, heap_old, heap_set, ↓reduceIte, Nat.reduceEqDiff, Nat.reduceLT, Nat.reduceAdd, Int.reduceLT, Int.reduceLE, decide_false, decide_true, dec_true, dec_false, true_and, and_true, true_imp_iff, Bool.not_true, Bool.not_false, Option.map_none, Int.reduceToNat, Int.toNat_zero, Int.toNat_one, lkV_false, lkV_true, f1, f3, f4, f5, f6, hbx]
  refine Br_if (fun h => ?_) (fun h' => ?_) <;> (try simp (disch := first | omega | assumption | (simp only [O1, World.size_alloc, World.size_setCell, World.size_drew]; first | done | omega)) only [O1, D2, ↓H0, S0, ↓S1, ↓S2, ↓S3, ↓S4, S5, S5b, S5c, ↓S6, S6b, M0, E0, ty, tl, te, tc, i64_wrap, u64_wrap, iaV_sl, iaV_arr, faV_pa, nck_pa, heap_new, heap_old, heap_set, ↓reduceIte, Nat.reduceEqDiff, Nat.reduceLT, Nat.reduceAdd, Int.reduceLT, Int.reduceLE, decide_false, decide_true, dec_true, dec_false, true_and, and_true, true_imp_iff, Bool.not_true, Bool.not_false, Option.map_none, Int.reduceToNat, Int.toNat_zero, Int.toNat_one, lkV_false, lkV_true, f1, f3, f4, f5, f6, hbx])
  · have hi : i < g.names.length := by omega
    refine RunM_own (enc := Value.bool) (z := false) sl53 rfl (by omega) (by omega) ?_
    intro V hVs hxV hOQ
    obtain ⟨Q, hQ⟩ : ∃ Q, Q = U.heap.size := ⟨_, rfl⟩
    rw [← hQ] at hOQ hVs ⊢
    have hxs := hx.size
    have hone : (encM g.terms.length Q).oneCell' = true := rfl
    simp (disch := first | omega | assumption | (simp only [O1, World.size_alloc, World.size_setCell, World.size_drew]; first | done | omega)) only [O1, D2, ↓H0, S0, ↓S1, ↓S2, ↓S3, ↓S4, S5, S5b, S5c, ↓S6, S6b, M0, E0, ty, tl, te, tc, i64_wrap, u64_wrap, iaV_sl, iaV_arr, faV_pa, nck_pa, heap_new, heap_old, heap_set, ↓reduceIte, Nat.reduceEqDiff, Nat.reduceLT, Nat.reduceAdd, Int.reduceLT, Int.reduceLE, decide_false, decide_true, dec_true, dec_false, true_and, and_true, true_imp_iff, Bool.not_true, Bool.not_false, Option.map_none, Int.reduceToNat, Int.toNat_zero, Int.toNat_one, lkV_false, lkV_true, sl, f1, f3, f4, f5, f6, bsl1 sl69]
    refine RunA_row (enc := encM g.terms.length) (x := Q) sl69 (hR.ext hxV) rfl (by rw [hM.len, hFl]; omega) (by omega) (by omega) ?_
    intro rv' Y hR' hgY hsz hv
    have hM2 := (hM.ext hxV).push (g := Q) (r := List.replicate g.terms.length false) (by omega) (fun x hx e => by have := hM.lt hx; omega) hOQ
    have hM3 : Mat 4 W0.heap.size Y (gs ++ [Q]) (F ++ [List.replicate g.terms.length false]) := hM2.kept fun x hx => by
      obtain ⟨i, hi, rfl⟩ := List.mem_iff_getElem.1 hx
      have ho := hM2.own i _ _ (List.getElem?_eq_getElem hi) (List.getElem?_eq_getElem (hM2.len ▸ hi))
      exact hgY.block _ ho.lt fun e => (hR.ext hxV).ne ho (by decide) e.symm
    have hxY : Ext W0 Y := (hx.tr hxV).grown' hgY fun k hk => ((hR.ext hxV).lt k hk).1
    simp (disch := first | omega | assumption | (simp only [O1, World.size_alloc, World.size_setCell, World.size_drew]; first | done | omega)) only [O1, D2, ↓H0, S0, ↓S1, ↓S2, ↓S3, ↓S4, S5, S5b, S5c, ↓S6, S6b, M0, E0, ty, tl, te, tc, i64_wrap, u64_wrap, iaV_sl, iaV_arr, faV_pa, nck_pa, heap_new, heap_old, heap_set, ↓reduceIte, Nat.reduceEqDiff, Nat.reduceLT, Nat.reduceAdd, Int.reduceLT, Int.reduceLE, decide_false, decide_true, dec_true, dec_false, true_and, and_true, true_imp_iff, Bool.not_true, Bool.not_false, Option.map_none, Int.reduceToNat, Int.toNat_zero, Int.toNat_one, lkV_false, lkV_true, f1, f3, f4, f5, f6]
    refine ⟨k - 1, by omega, i + 1, rv', _, _, by omega, hxY, hR', hM3, by simp [hFl], fun r hr => ?_, rfl, rfl⟩
    rcases List.mem_append.1 hr with hr | hr
    · exact hFr r hr
    · simpa using hr
  have hin2 : i = g.names.length := by omega
  subst hin2
  have hgl : gs.length = g.names.length := by rw [hM.len, hFl]
  obtain ⟨RA, rc, rfl, hrc, _⟩ := hR.sq
  refine ⟨fun k t U => ∃ (F : List (List Bool)) (m : Bool), k = 2 * zeros F + (if m then 1 else 0) ∧ Ext W0 U ∧ Row (encM g.terms.length) W0.heap.size 53 U (.slice RA gs.length rc) gs ∧ Mat 4 W0.heap.size U gs F ∧ (∀ r ∈ F, r.length = g.terms.length) ∧ F.length = g.names.length ∧ (∀ a t : Nat, bit F a t → Fst g.prods a t) ∧ (m = false → ∀ p ∈ g.prods, ClosF g.prods g.terms.length F p p.2.length) ∧ t 1 = pa (some ⟨w.heap.size, 0, none⟩) 0 ∧ t 3 = .slice NA nl.length nc ∧ t 4 = .slice LA l.length lc ∧ t 5 = .slice RA gs.length rc ∧ t 7 = .bool m,
    ⟨_, F, true, rfl, hx, hR, hM, fun r hr => by rw [hFr r hr]; simp, hFl, fun a t ⟨r, h1, h2⟩ => by rw [hFr r (List.mem_of_getElem? h1)] at h2; simp [List.getElem?_replicate] at h2, by simp, ?_⟩, ?_⟩
  · simp (disch := first | omega | assumption | (simp only [O1, World.size_alloc, World.size_setCell, World.size_drew]; first | done | omega)) only [O1, D2, ↓H0, S0, ↓S1, ↓S2, ↓S3, ↓S4, S5, S5b, S5c, ↓S6, S6b, M0, E0, ty, tl, te, tc, i64_wrap, u64_wrap, iaV_sl, iaV_arr, faV_pa, nck_pa, heap_new, heap_old, heap_set, ↓reduceIte, Nat.reduceEqDiff, Nat.reduceLT, Nat.reduceAdd, Int.reduceLT, Int.reduceLE, decide_false, decide_true, dec_true, dec_false, true_and, and_true, true_imp_iff, Bool.not_true, Bool.not_false, Option.map_none, Int.reduceToNat, Int.toNat_zero, Int.toNat_one, lkV_false, lkV_true, f1, f3, f4, f5] <;> rfl
  clear hx hR hM hFl hFr hbx f1 f3 f4 f5 f6
  rintro k t U ⟨F, m, rfl, hx, hR, hM, hFr, hFl, hI, hcl, f1, f3, f4, f5, f7⟩
  simp (disch := first | omega | assumption | (simp only [O1, World.size_alloc, World.size_setCell, World.size_drew]; first | done | omega)) only [O1, D2, ↓H0, S0, ↓S1, ↓S2, ↓S3, ↓S4, S5, S5b, S5c, ↓S6, S6b, M0, E0, ty, tl, te, tc, i64_wrap, u64_wrap, iaV_sl, iaV_arr, faV_pa, nck_pa, heap_new, heap_old, heap_set, ↓reduceIte, Nat.reduceEqDiff, Nat.reduceLT, Nat.reduceAdd, Int.reduceLT, Int.reduceLE, decide_false, decide_true, dec_true, dec_false, true_and, and_true, true_imp_iff, Bool.not_true, Bool.not_false, Option.map_none, Int.reduceToNat, Int.toNat_zero, Int.toNat_one, lkV_false, lkV_true, f1, f3, f4, f5, f7]
  cases m with
  | false =>
    simp (disch := first | omega | assumption | (simp only [O1, World.size_alloc, World.size_setCell, World.size_drew]; first | done | omega)) only [O1, D2, ↓H0, S0, ↓S1, ↓S2, ↓S3, ↓S4, S5, S5b, S5c, ↓S6, S6b, M0, E0, ty, tl, te, tc, i64_wrap, u64_wrap, iaV_sl, iaV_arr, faV_pa, nck_pa, heap_new, heap_old, heap_set, ↓reduceIte, Nat.reduceEqDiff, Nat.reduceLT, Nat.reduceAdd, Int.reduceLT, Int.reduceLE, decide_false, decide_true, dec_true, dec_false, true_and, and_true, true_imp_iff, Bool.not_true, Bool.not_false, Option.map_none, Int.reduceToNat, Int.toNat_zero, Int.toNat_one, lkV_false, lkV_true, f1, f3, f4, f5, f7]
    refine ⟨⟨F, ?_, hFl, hFr, fun a t ha ht => ⟨hI a t, fun h => ?_⟩⟩, hxW.tr hx⟩
    · rw [hgl, ← hFl]
      refine ⟨RA, rc, rfl, by omega, fun i hi => ?_⟩
      have hig : i < gs.length := by rw [hM.len]; exact hi
      refine ⟨_, row_rd hR i hig, ?_⟩
      have ho := (hM.own i _ _ (List.getElem?_eq_getElem hig) (List.getElem?_eq_getElem hi)).sq
      rw [hFr _ (List.getElem_mem hi)] at ho
      exact ho
    · have := fst_bit (hcl rfl) h ht
      simpa using this
  | true =>
    simp (disch := first | omega | assumption | (simp only [O1, World.size_alloc, World.size_setCell, World.size_drew]; first | done | omega)) only [O1, D2, ↓H0, S0, ↓S1, ↓S2, ↓S3, ↓S4, S5, S5b, S5c, ↓S6, S6b, M0, E0, ty, tl, te, tc, i64_wrap, u64_wrap, iaV_sl, iaV_arr, faV_pa, nck_pa, heap_new, heap_old, heap_set, ↓reduceIte, Nat.reduceEqDiff, Nat.reduceLT, Nat.reduceAdd, Int.reduceLT, Int.reduceLE, decide_false, decide_true, dec_true, dec_false, true_and, and_true, true_imp_iff, Bool.not_true, Bool.not_false, Option.map_none, Int.reduceToNat, Int.toNat_zero, Int.toNat_one, lkV_false, lkV_true, f1, f3, f4, f5, f7]
    refine ⟨fun k2 t U => ∃ (j : Nat) (F2 : List (List Bool)) (m : Bool), k2 + j = g.prods.length ∧ (m = true → zeros F2 < zeros F) ∧ zeros F2 ≤ zeros F ∧ Ext W0 U ∧ Row (encM g.terms.length) W0.heap.size 53 U (.slice RA gs.length rc) gs ∧ Mat 4 W0.heap.size U gs F2 ∧ (∀ r ∈ F2, r.length = g.terms.length) ∧ F2.length = g.names.length ∧ (∀ a t : Nat, bit F2 a t → Fst g.prods a t) ∧ (m = false → ∀ x (h : x < g.prods.length), x < j → ClosF g.prods g.terms.length F2 g.prods[x] g.prods[x].2.length) ∧ t 1 = pa (some ⟨w.heap.size, 0, none⟩) 0 ∧ t 3 = .slice NA nl.length nc ∧ t 4 = .slice LA l.length lc ∧ t 5 = .slice RA gs.length rc ∧ t 7 = .bool m ∧ t 8 = .int .i64 j,
      ⟨g.prods.length, 0, F, false, by omega, by simp, Nat.le_refl _, hx, hR, hM, hFr, hFl, hI, fun _ x _ h => by omega, ?_⟩, ?_⟩
    · simp (disch := first | omega | assumption | (simp only [O1, World.size_alloc, World.size_setCell, World.size_drew]; first | done | omega)) only [O1, D2, ↓H0, S0, ↓S1, ↓S2, ↓S3, ↓S4, S5, S5b, S5c, ↓S6, S6b, M0, E0, ty, tl, te, tc, i64_wrap, u64_wrap, iaV_sl, iaV_arr, faV_pa, nck_pa, heap_new, heap_old, heap_set, ↓reduceIte, Nat.reduceEqDiff, Nat.reduceLT, Nat.reduceAdd, Int.reduceLT, Int.reduceLE, decide_false, decide_true, dec_true, dec_false, true_and, and_true, true_imp_iff, Bool.not_true, Bool.not_false, Option.map_none, Int.reduceToNat, Int.toNat_zero, Int.toNat_one, lkV_false, lkV_true, f1, f3, f4, f5] <;> rfl
    clear hx hR hM hFr hFl hI hcl f1 f3 f4 f5 f7
    rintro k2 t U ⟨j, F2, m, hk2, hm1, hm2, hx, hR, hM, hFr, hFl, hI, hcl, f1, f3, f4, f5, f7, f8⟩
    have hbx := hx.hp hbW
    simp (disch := first | omega | assumption | (simp only [O1, World.size_alloc, World.size_setCell, World.size_drew]; first | done | omega)) only [O1, D2, ↓H0, S0, ↓S1, ↓S2, ↓S3, ↓S4, S5, S5b, S5c, ↓S6, S6b, M0, E0, ty, tl, te, tc, i64_wrap, u64_wrap, iaV_sl, iaV_arr, faV_pa, nck_pa, heap_new, heap_old, heap_set, ↓reduceIte, Nat.reduceEqDiff, Nat.reduceLT, Nat.reduceAdd, Int.reduceLT, Int.reduceLE, decide_false, decide_true, dec_true, dec_false, true_and, and_true, true_imp_iff, Bool.not_true, Bool.not_false, Option.map_none, Int.reduceToNat, Int.toNat_zero, Int.toNat_one, lkV_false, lkV_true, f1, f3, f4, f5, f7, f8, hbx]
    refine Br_if (fun h => ?_) (fun h' => ?_) <;> (try simp (disch := first | omega | assumption | (simp only [O1, World.size_alloc, World.size_setCell, World.size_drew]; first | done | omega)) only [O1, D2, ↓H0, S0, ↓S1, ↓S2, ↓S3, ↓S4, S5, S5b, S5c, ↓S6, S6b, M0, E0, ty, tl, te, tc, i64_wrap, u64_wrap, iaV_sl, iaV_arr, faV_pa, nck_pa, heap_new, heap_old, heap_set, ↓reduceIte, Nat.reduceEqDiff, Nat.reduceLT, Nat.reduceAdd, Int.reduceLT, Int.reduceLE, decide_false, decide_true, dec_true, dec_false, true_and, and_true, true_imp_iff, Bool.not_true, Bool.not_false, Option.map_none, Int.reduceToNat, Int.toNat_zero, Int.toNat_one, lkV_false, lkV_true, f1, f3, f4, f5, f7, f8, hbx])
    · have hj : j < g.prods.length := by omega
      obtain ⟨hl0, r, hr0, hRr⟩ := hC j hj
      obtain ⟨D, d, rfl, hd, hD⟩ := hRr
      have hxw := hxW.tr hx
      have hl' := hxw.rd hl0
      have hr' := hxw.rd hr0
      have hAs := rd_isSome hl'
      have hmem : g.prods[j] ∈ g.prods := List.getElem_mem _
      generalize hp : g.prods[j] = p at *
      obtain ⟨⟨hp0, hp1⟩, hps⟩ := hin p hmem
      have hlen := s4 p hmem
      simp (disch := first | omega | assumption | (simp only [O1, World.size_alloc, World.size_setCell, World.size_drew]; first | done | omega)) only [O1, D2, ↓H0, S0, ↓S1, ↓S2, ↓S3, ↓S4, S5, S5b, S5c, ↓S6, S6b, M0, E0, ty, tl, te, tc, i64_wrap, u64_wrap, iaV_sl, iaV_arr, faV_pa, nck_pa, heap_new, heap_old, heap_set, ↓reduceIte, Nat.reduceEqDiff, Nat.reduceLT, Nat.reduceAdd, Int.reduceLT, Int.reduceLE, decide_false, decide_true, dec_true, dec_false, true_and, and_true, true_imp_iff, Bool.not_true, Bool.not_false, Option.map_none, Int.reduceToNat, Int.toNat_zero, Int.toNat_one, lkV_false, lkV_true, f1, f3, f4, f5, f7, f8, hbx, hl', hr']
      refine ⟨fun k3 t V => ∃ (i : Nat) (ok : Bool), k3 + i = p.2.length ∧ V = U ∧ (ok = true ↔ ∀ x y, p.2[x]? = some y → x < i → 0 ≤ y → Gen true g.prods y) ∧ t 1 = pa (some ⟨w.heap.size, 0, none⟩) 0 ∧ t 3 = .slice NA nl.length nc ∧ t 4 = .slice LA l.length lc ∧ t 5 = .slice RA gs.length rc ∧ t 7 = .bool m ∧ t 8 = .int .i64 j ∧ t 9 = .slice D p.2.length d ∧ t 10 = .int .i64 p.1 ∧ t 11 = .bool ok ∧ t 12 = .int .i64 i,
        ⟨p.2.length, 0, true, by omega, rfl, by simp, ?_⟩, ?_⟩
      · simp (disch := first | omega | assumption | (simp only [O1, World.size_alloc, World.size_setCell, World.size_drew]; first | done | omega)) only [O1, D2, ↓H0, S0, ↓S1, ↓S2, ↓S3, ↓S4, S5, S5b, S5c, ↓S6, S6b, M0, E0, ty, tl, te, tc, i64_wrap, u64_wrap, iaV_sl, iaV_arr, faV_pa, nck_pa, heap_new, heap_old, heap_set, ↓reduceIte, Nat.reduceEqDiff, Nat.reduceLT, Nat.reduceAdd, Int.reduceLT, Int.reduceLE, decide_false, decide_true, dec_true, dec_false, true_and, and_true, true_imp_iff, Bool.not_true, Bool.not_false, Option.map_none, Int.reduceToNat, Int.toNat_zero, Int.toNat_one, lkV_false, lkV_true, f1, f3, f4, f5, f7, f8] <;> rfl
      clear f1 f3 f4 f5 f7 f8
      rintro k3 t U' ⟨i, ok, hk3, rfl, hok, f1, f3, f4, f5, f7, f8, f9, f10, f11, f12⟩
      simp (disch := first | omega | assumption | (simp only [O1, World.size_alloc, World.size_setCell, World.size_drew]; first | done | omega)) only [O1, D2, ↓H0, S0, ↓S1, ↓S2, ↓S3, ↓S4, S5, S5b, S5c, ↓S6, S6b, M0, E0, ty, tl, te, tc, i64_wrap, u64_wrap, iaV_sl, iaV_arr, faV_pa, nck_pa, heap_new, heap_old, heap_set, ↓reduceIte, Nat.reduceEqDiff, Nat.reduceLT, Nat.reduceAdd, Int.reduceLT, Int.reduceLE, decide_false, decide_true, dec_true, dec_false, true_and, and_true, true_imp_iff, Bool.not_true, Bool.not_false, Option.map_none, Int.reduceToNat, Int.toNat_zero, Int.toNat_one, lkV_false, lkV_true, f1, f3, f4, f5, f7, f8, f9, f10, f11, f12]
      refine Br_if (fun q => ?_) (fun q' => ?_) <;> (try simp (disch := first | omega | assumption | (simp only [O1, World.size_alloc, World.size_setCell, World.size_drew]; first | done | omega)) only [O1, D2, ↓H0, S0, ↓S1, ↓S2, ↓S3, ↓S4, S5, S5b, S5c, ↓S6, S6b, M0, E0, ty, tl, te, tc, i64_wrap, u64_wrap, iaV_sl, iaV_arr, faV_pa, nck_pa, heap_new, heap_old, heap_set, ↓reduceIte, Nat.reduceEqDiff, Nat.reduceLT, Nat.reduceAdd, Int.reduceLT, Int.reduceLE, decide_false, decide_true, dec_true, dec_false, true_and, and_true, true_imp_iff, Bool.not_true, Bool.not_false, Option.map_none, Int.reduceToNat, Int.toNat_zero, Int.toNat_one, lkV_false, lkV_true, f1, f3, f4, f5, f7, f8, f9, f10, f11, f12])
      · have hi : i < p.2.length := by omega
        have hs := hxw.rd (hD i hi)
        have hDs := rd_isSome hs
        have hgi : p.2[i]? = some p.2[i] := List.getElem?_eq_getElem hi
        have hmem2 : p.2[i] ∈ p.2 := List.getElem_mem _
        generalize hse : p.2[i] = s at *
        have hsn := hps s hmem2
        have hstep : (∀ x y, p.2[x]? = some y → x < i + 1 → 0 ≤ y → Gen true g.prods y) ↔ ok = true ∧ (0 ≤ s → Gen true g.prods s) := by
          rw [hok]
          constructor
          · intro hh; exact ⟨fun x y hx hxi => hh x y hx (by omega), hh i s hgi (by omega)⟩
          · rintro ⟨h1, h2⟩ x y hx hxi
            by_cases e : x = i
            · subst e; rw [hgi] at hx; simp only [Option.some.injEq] at hx; subst hx; exact h2
            · exact h1 x y hx (by omega)
        cases ok with
        | false =>
          simp (disch := first | omega | assumption | (simp only [O1, World.size_alloc, World.size_setCell, World.size_drew]; first | done | omega)) only [O1, D2, ↓H0, S0, ↓S1, ↓S2, ↓S3, ↓S4, S5, S5b, S5c, ↓S6, S6b, M0, E0, ty, tl, te, tc, i64_wrap, u64_wrap, iaV_sl, iaV_arr, faV_pa, nck_pa, heap_new, heap_old, heap_set, ↓reduceIte, Nat.reduceEqDiff, Nat.reduceLT, Nat.reduceAdd, Int.reduceLT, Int.reduceLE, decide_false, decide_true, dec_true, dec_false, true_and, and_true, true_imp_iff, Bool.not_true, Bool.not_false, Option.map_none, Int.reduceToNat, Int.toNat_zero, Int.toNat_one, lkV_false, lkV_true, f1, f3, f4, f5, f7, f8, f9, f10, f11, f12]
          exact ⟨k3 - 1, by omega, i + 1, false, by omega, by rw [hstep]; simp, rfl, rfl⟩
        | true =>
          simp (disch := first | omega | assumption | (simp only [O1, World.size_alloc, World.size_setCell, World.size_drew]; first | done | omega)) only [O1, D2, ↓H0, S0, ↓S1, ↓S2, ↓S3, ↓S4, S5, S5b, S5c, ↓S6, S6b, M0, E0, ty, tl, te, tc, i64_wrap, u64_wrap, iaV_sl, iaV_arr, faV_pa, nck_pa, heap_new, heap_old, heap_set, ↓reduceIte, Nat.reduceEqDiff, Nat.reduceLT, Nat.reduceAdd, Int.reduceLT, Int.reduceLE, decide_false, decide_true, dec_true, dec_false, true_and, and_true, true_imp_iff, Bool.not_true, Bool.not_false, Option.map_none, Int.reduceToNat, Int.toNat_zero, Int.toNat_one, lkV_false, lkV_true, f1, f3, f4, f5, f7, f8, f9, f10, f11, f12, hs]
          refine Br_if (fun q1 => ?_) (fun q1' => ?_) <;> (try simp (disch := first | omega | assumption | (simp only [O1, World.size_alloc, World.size_setCell, World.size_drew]; first | done | omega)) only [O1, D2, ↓H0, S0, ↓S1, ↓S2, ↓S3, ↓S4, S5, S5b, S5c, ↓S6, S6b, M0, E0, ty, tl, te, tc, i64_wrap, u64_wrap, iaV_sl, iaV_arr, faV_pa, nck_pa, heap_new, heap_old, heap_set, ↓reduceIte, Nat.reduceEqDiff, Nat.reduceLT, Nat.reduceAdd, Int.reduceLT, Int.reduceLE, decide_false, decide_true, dec_true, dec_false, true_and, and_true, true_imp_iff, Bool.not_true, Bool.not_false, Option.map_none, Int.reduceToNat, Int.toNat_zero, Int.toNat_one, lkV_false, lkV_true, f1, f3, f4, f5, f7, f8, f9, f10, f11, f12, hs])
          · exact ⟨k3 - 1, by omega, i + 1, true, by omega, by rw [hstep]; exact ⟨fun _ => ⟨rfl, fun h => by omega⟩, fun _ => rfl⟩, rfl, rfl⟩
          · have hsl : s.toNat < l.length := by rw [hSh.1]; omega
            have hrl := hx.rd (hLA s.toNat hsl)
            have hLs := rd_isSome hrl
            have hgen := short_gen hSh hsl
            rw [Int.toNat_of_nonneg (by omega)] at hgen
            generalize l[s.toNat] = y at *
            simp (disch := first | omega | assumption | (simp only [O1, World.size_alloc, World.size_setCell, World.size_drew]; first | done | omega)) only [O1, D2, ↓H0, S0, ↓S1, ↓S2, ↓S3, ↓S4, S5, S5b, S5c, ↓S6, S6b, M0, E0, ty, tl, te, tc, i64_wrap, u64_wrap, iaV_sl, iaV_arr, faV_pa, nck_pa, heap_new, heap_old, heap_set, ↓reduceIte, Nat.reduceEqDiff, Nat.reduceLT, Nat.reduceAdd, Int.reduceLT, Int.reduceLE, decide_false, decide_true, dec_true, dec_false, true_and, and_true, true_imp_iff, Bool.not_true, Bool.not_false, Option.map_none, Int.reduceToNat, Int.toNat_zero, Int.toNat_one, lkV_false, lkV_true, f1, f3, f4, f5, f7, f8, f9, f10, f11, f12, hs, hrl]
            exact ⟨k3 - 1, by omega, i + 1, decide (0 ≤ y), by omega, by rw [hstep, decide_eq_true_iff, hgen]; exact ⟨fun h => ⟨rfl, fun _ => h⟩, fun h => h.2 (by omega)⟩, rfl, rfl⟩
      have hi : i = p.2.length := by omega
      have hus : ok = true ↔ Usable g.prods p.2 := by
        rw [hok]
        constructor
        · intro hh s hs
          obtain ⟨x, hx, rfl⟩ := List.mem_iff_getElem.1 hs
          exact hh x _ (List.getElem?_eq_getElem hx) (by omega)
        · intro hh x y hx _ ; exact hh y (List.mem_of_getElem? hx)
      clear hok hi q'
      refine ⟨fun k3 t U => ∃ (i : Nat) (F2 : List (List Bool)) (m ok : Bool), k3 + i = p.2.length ∧ (m = true → zeros F2 < zeros F) ∧ zeros F2 ≤ zeros F ∧ Ext W0 U ∧ Row (encM g.terms.length) W0.heap.size 53 U (.slice RA gs.length rc) gs ∧ Mat 4 W0.heap.size U gs F2 ∧ (∀ r ∈ F2, r.length = g.terms.length) ∧ F2.length = g.names.length ∧ (∀ a t : Nat, bit F2 a t → Fst g.prods a t) ∧ (m = false → ∀ x (h : x < g.prods.length), x < j → ClosF g.prods g.terms.length F2 g.prods[x] g.prods[x].2.length) ∧ (m = false → ClosF g.prods g.terms.length F2 p i) ∧ (ok = true ↔ Usable g.prods p.2 ∧ Empties g.prods p.2 i) ∧ t 1 = pa (some ⟨w.heap.size, 0, none⟩) 0 ∧ t 3 = .slice NA nl.length nc ∧ t 4 = .slice LA l.length lc ∧ t 5 = .slice RA gs.length rc ∧ t 7 = .bool m ∧ t 8 = .int .i64 j ∧ t 9 = .slice D p.2.length d ∧ t 10 = .int .i64 p.1 ∧ t 11 = .bool ok ∧ t 13 = .int .i64 i,
        ⟨p.2.length, 0, F2, m, ok, by omega, hm1, hm2, hx, hR, hM, hFr, hFl, hI, hcl, fun _ _ x s hx => by omega, ⟨fun h => ⟨hus.1 h, fun x y hx => by omega⟩, fun h => hus.2 h.1⟩, ?_⟩, ?_⟩
      · simp (disch := first | omega | assumption | (simp only [O1, World.size_alloc, World.size_setCell, World.size_drew]; first | done | omega)) only [O1, D2, ↓H0, S0, ↓S1, ↓S2, ↓S3, ↓S4, S5, S5b, S5c, ↓S6, S6b, M0, E0, ty, tl, te, tc, i64_wrap, u64_wrap, iaV_sl, iaV_arr, faV_pa, nck_pa, heap_new, heap_old, heap_set, ↓reduceIte, Nat.reduceEqDiff, Nat.reduceLT, Nat.reduceAdd, Int.reduceLT, Int.reduceLE, decide_false, decide_true, dec_true, dec_false, true_and, and_true, true_imp_iff, Bool.not_true, Bool.not_false, Option.map_none, Int.reduceToNat, Int.toNat_zero, Int.toNat_one, lkV_false, lkV_true, f1, f3, f4, f5, f7, f8, f9, f10, f11] <;> rfl
      clear hm1 hm2 hx hR hM hFr hFl hI hcl hus hbx hxw hl' hr' f1 f3 f4 f5 f7 f8 f9 f10 f11 f12
      rintro k3 t U ⟨i, F2, m, ok, hk3, hm1, hm2, hx, hR, hM, hFr, hFl, hI, hcl, hcp, hok, f1, f3, f4, f5, f7, f8, f9, f10, f11, f13⟩
      have hbx := hx.hp hbW
      have hxw := hxW.tr hx
      simp (disch := first | omega | assumption | (simp only [O1, World.size_alloc, World.size_setCell, World.size_drew]; first | done | omega)) only [O1, D2, ↓H0, S0, ↓S1, ↓S2, ↓S3, ↓S4, S5, S5b, S5c, ↓S6, S6b, M0, E0, ty, tl, te, tc, i64_wrap, u64_wrap, iaV_sl, iaV_arr, faV_pa, nck_pa, heap_new, heap_old, heap_set, ↓reduceIte, Nat.reduceEqDiff, Nat.reduceLT, Nat.reduceAdd, Int.reduceLT, Int.reduceLE, decide_false, decide_true, dec_true, dec_false, true_and, and_true, true_imp_iff, Bool.not_true, Bool.not_false, Option.map_none, Int.reduceToNat, Int.toNat_zero, Int.toNat_one, lkV_false, lkV_true, f1, f3, f4, f5, f7, f8, f9, f10, f11, f13, hbx]
      have leave : ¬ (i < p.2.length ∧ ok = true) → m = false → ∀ x (h : x < g.prods.length), x < j + 1 → ClosF g.prods g.terms.length F2 g.prods[x] g.prods[x].2.length := fun hh hm x hx hxj => by
        by_cases e : x = j
        · subst e
          rw [hp]
          by_cases e2 : i < p.2.length
          · exact (hcp hm).stop (fun h3 => hh ⟨e2, hok.2 h3⟩) _
          · have e3 : i = p.2.length := by omega
            rw [← e3]; exact hcp hm
        · exact hcl hm x hx (by omega)
      refine Br_if (fun q => ?_) (fun q' => ?_) <;> (try simp (disch := first | omega | assumption | (simp only [O1, World.size_alloc, World.size_setCell, World.size_drew]; first | done | omega)) only [O1, D2, ↓H0, S0, ↓S1, ↓S2, ↓S3, ↓S4, S5, S5b, S5c, ↓S6, S6b, M0, E0, ty, tl, te, tc, i64_wrap, u64_wrap, iaV_sl, iaV_arr, faV_pa, nck_pa, heap_new, heap_old, heap_set, ↓reduceIte, Nat.reduceEqDiff, Nat.reduceLT, Nat.reduceAdd, Int.reduceLT, Int.reduceLE, decide_false, decide_true, dec_true, dec_false, true_and, and_true, true_imp_iff, Bool.not_true, Bool.not_false, Option.map_none, Int.reduceToNat, Int.toNat_zero, Int.toNat_one, lkV_false, lkV_true, f1, f3, f4, f5, f7, f8, f9, f10, f11, f13, hbx])
      · cases ok with
        | false =>
          simp (disch := first | omega | assumption | (simp only [O1, World.size_alloc, World.size_setCell, World.size_drew]; first | done | omega)) only [O1, D2, ↓H0, S0, ↓S1, ↓S2, ↓S3, ↓S4, S5, S5b, S5c, ↓S6, S6b, M0, E0, ty, tl, te, tc, i64_wrap, u64_wrap, iaV_sl, iaV_arr, faV_pa, nck_pa, heap_new, heap_old, heap_set, ↓reduceIte, Nat.reduceEqDiff, Nat.reduceLT, Nat.reduceAdd, Int.reduceLT, Int.reduceLE, decide_false, decide_true, dec_true, dec_false, true_and, and_true, true_imp_iff, Bool.not_true, Bool.not_false, Option.map_none, Int.reduceToNat, Int.toNat_zero, Int.toNat_one, lkV_false, lkV_true, f1, f3, f4, f5, f7, f8, f9, f10, f11, f13, hbx]
          exact ⟨k2 - 1, by omega, j + 1, F2, m, by omega, hm1, hm2, hx, hR, hM, hFr, hFl, hI, leave (by simp), rfl, rfl⟩
        | true =>
          have hi : i < p.2.length := by omega
          obtain ⟨hu, hem⟩ := hok.1 rfl
          have hgi : p.2[i]? = some p.2[i] := List.getElem?_eq_getElem hi
          have hmem2 : p.2[i] ∈ p.2 := List.getElem_mem _
          have hDi := hD i hi
          generalize hse : p.2[i] = s at *
          have hsn := hps s hmem2
          simp (disch := first | omega | assumption | (simp only [O1, World.size_alloc, World.size_setCell, World.size_drew]; first | done | omega)) only [O1, D2, ↓H0, S0, ↓S1, ↓S2, ↓S3, ↓S4, S5, S5b, S5c, ↓S6, S6b, M0, E0, ty, tl, te, tc, i64_wrap, u64_wrap, iaV_sl, iaV_arr, faV_pa, nck_pa, heap_new, heap_old, heap_set, ↓reduceIte, Nat.reduceEqDiff, Nat.reduceLT, Nat.reduceAdd, Int.reduceLT, Int.reduceLE, decide_false, decide_true, dec_true, dec_false, true_and, and_true, true_imp_iff, Bool.not_true, Bool.not_false, Option.map_none, Int.reduceToNat, Int.toNat_zero, Int.toNat_one, lkV_false, lkV_true, f1, f3, f4, f5, f7, f8, f9, f10, f11, f13, hbx]
          refine ⟨fun k4 t U => ∃ (to : Nat) (F2 : List (List Bool)) (m : Bool), k4 + to = g.terms.length ∧ (m = true → zeros F2 < zeros F) ∧ zeros F2 ≤ zeros F ∧ Ext W0 U ∧ Row (encM g.terms.length) W0.heap.size 53 U (.slice RA gs.length rc) gs ∧ Mat 4 W0.heap.size U gs F2 ∧ (∀ r ∈ F2, r.length = g.terms.length) ∧ F2.length = g.names.length ∧ (∀ a t : Nat, bit F2 a t → Fst g.prods a t) ∧ (m = false → ∀ x (h : x < g.prods.length), x < j → ClosF g.prods g.terms.length F2 g.prods[x] g.prods[x].2.length) ∧ (m = false → ClosF g.prods g.terms.length F2 p i) ∧ (m = false → ∀ x : Nat, x < to → (s = -1 - (x : Int) ∨ 0 ≤ s ∧ bit F2 s.toNat x) → bit F2 p.1.toNat x) ∧ t 1 = pa (some ⟨w.heap.size, 0, none⟩) 0 ∧ t 3 = .slice NA nl.length nc ∧ t 4 = .slice LA l.length lc ∧ t 5 = .slice RA gs.length rc ∧ t 7 = .bool m ∧ t 8 = .int .i64 j ∧ t 9 = .slice D p.2.length d ∧ t 10 = .int .i64 p.1 ∧ t 13 = .int .i64 i ∧ t 14 = .int .i64 to,
            ⟨g.terms.length, 0, F2, m, by omega, hm1, hm2, hx, hR, hM, hFr, hFl, hI, hcl, hcp, fun _ x h => by omega, ?_⟩, ?_⟩
          · simp (disch := first | omega | assumption | (simp only [O1, World.size_alloc, World.size_setCell, World.size_drew]; first | done | omega)) only [O1, D2, ↓H0, S0, ↓S1, ↓S2, ↓S3, ↓S4, S5, S5b, S5c, ↓S6, S6b, M0, E0, ty, tl, te, tc, i64_wrap, u64_wrap, iaV_sl, iaV_arr, faV_pa, nck_pa, heap_new, heap_old, heap_set, ↓reduceIte, Nat.reduceEqDiff, Nat.reduceLT, Nat.reduceAdd, Int.reduceLT, Int.reduceLE, decide_false, decide_true, dec_true, dec_false, true_and, and_true, true_imp_iff, Bool.not_true, Bool.not_false, Option.map_none, Int.reduceToNat, Int.toNat_zero, Int.toNat_one, lkV_false, lkV_true, f1, f3, f4, f5, f7, f8, f9, f10, f11, f13] <;> rfl
          clear hm1 hm2 hx hR hM hFr hFl hI hcl hcp hbx hxw leave hok f1 f3 f4 f5 f7 f8 f9 f10 f11 f13
          rintro k4 t U ⟨to, F2, m, hk4, hm1, hm2, hx, hR, hM, hFr, hFl, hI, hcl, hcp, hct, f1, f3, f4, f5, f7, f8, f9, f10, f13, f14⟩
          have hbx := hx.hp hbW
          have hxw := hxW.tr hx
          have hs := hxw.rd hDi
          have hDs := rd_isSome hs
          simp (disch := first | omega | assumption | (simp only [O1, World.size_alloc, World.size_setCell, World.size_drew]; first | done | omega)) only [O1, D2, ↓H0, S0, ↓S1, ↓S2, ↓S3, ↓S4, S5, S5b, S5c, ↓S6, S6b, M0, E0, ty, tl, te, tc, i64_wrap, u64_wrap, iaV_sl, iaV_arr, faV_pa, nck_pa, heap_new, heap_old, heap_set, ↓reduceIte, Nat.reduceEqDiff, Nat.reduceLT, Nat.reduceAdd, Int.reduceLT, Int.reduceLE, decide_false, decide_true, dec_true, dec_false, true_and, and_true, true_imp_iff, Bool.not_true, Bool.not_false, Option.map_none, Int.reduceToNat, Int.toNat_zero, Int.toNat_one, lkV_false, lkV_true, f1, f3, f4, f5, f7, f8, f9, f10, f13, f14, hbx]
          refine Br_if (fun q2 => ?_) (fun q2' => ?_) <;> (try simp (disch := first | omega | assumption | (simp only [O1, World.size_alloc, World.size_setCell, World.size_drew]; first | done | omega)) only [O1, D2, ↓H0, S0, ↓S1, ↓S2, ↓S3, ↓S4, S5, S5b, S5c, ↓S6, S6b, M0, E0, ty, tl, te, tc, i64_wrap, u64_wrap, iaV_sl, iaV_arr, faV_pa, nck_pa, heap_new, heap_old, heap_set, ↓reduceIte, Nat.reduceEqDiff, Nat.reduceLT, Nat.reduceAdd, Int.reduceLT, Int.reduceLE, decide_false, decide_true, dec_true, dec_false, true_and, and_true, true_imp_iff, Bool.not_true, Bool.not_false, Option.map_none, Int.reduceToNat, Int.toNat_zero, Int.toNat_one, lkV_false, lkV_true, f1, f3, f4, f5, f7, f8, f9, f10, f13, f14, hbx])
          · have hto : to < g.terms.length := by omega
            have hLF : p.1.toNat < F2.length := by omega
            have hLg : p.1.toNat < gs.length := by omega
            have r1 := row_rd hR p.1.toNat hLg
            simp only [encM] at r1
            have hAr := rd_isSome r1
            have hgL : gs[p.1.toNat]? = some gs[p.1.toNat] := List.getElem?_eq_getElem hLg
            have hrL : F2[p.1.toNat]? = some F2[p.1.toNat] := List.getElem?_eq_getElem hLF
            have hlL := hFr F2[p.1.toNat] (List.getElem_mem _)
            generalize gs[p.1.toNat] = gL at *
            generalize F2[p.1.toNat] = rL at *
            have hoL := hM.own _ _ _ hgL hrL
            have htoL : to < rL.length := by omega
            have hrdZ := hoL.rd to htoL
            have hceZ := hoL.cell to htoL
            have hzq : rL[to]? = some rL[to] := List.getElem?_eq_getElem htoL
            have hbz := bit_iff hrL hzq
            have hst := hoL.sto (P := Try.prog) (t := 4) (by simp only [ty]) to htoL true rfl
            have hnext : (¬ (s = -1 - (to : Int) ∨ 0 ≤ s ∧ bit F2 s.toNat to) ∨ bit F2 p.1.toNat to) → m = false → ∀ x : Nat, x < to + 1 → (s = -1 - (x : Int) ∨ 0 ≤ s ∧ bit F2 s.toNat x) → bit F2 p.1.toNat x := fun hh hm x hx hc => by
              by_cases e : x = to
              · subst e
                rcases hh with hh | hh
                · exact absurd hc hh
                · exact hh
              · exact hct hm x (by omega) hc
            have hnew : rL[to]? = some false → (s = -1 - (to : Int) ∨ 0 ≤ s ∧ bit F2 s.toNat to) → zeros (F2.set p.1.toNat (rL.set to true)) < zeros F ∧ Ext W0 (U.setCell ⟨gL, to, none⟩ (.bool true)) ∧ Row (encM g.terms.length) W0.heap.size 53 (U.setCell ⟨gL, to, none⟩ (.bool true)) (.slice RA gs.length rc) gs ∧
                Mat 4 W0.heap.size (U.setCell ⟨gL, to, none⟩ (.bool true)) gs (F2.set p.1.toNat (rL.set to true)) ∧ (∀ r ∈ F2.set p.1.toNat (rL.set to true), r.length = g.terms.length) ∧ (F2.set p.1.toNat (rL.set to true)).length = g.names.length ∧ (∀ a t : Nat, bit (F2.set p.1.toNat (rL.set to true)) a t → Fst g.prods a t) := fun hz hc => by
              have hzs := zeros_set hrL hz
              refine ⟨by omega, hx.st (hM.low _ (List.mem_of_getElem? hgL)) _, hR.kept (row := some gL) set_grown (.inr (hR.ne hoL (by decide))), hM.set hgL hrL to, fun r hr => ?_, by simpa using hFl, fun a t hb => ?_⟩
              · rcases List.mem_or_eq_of_mem_set hr with hr | rfl
                · exact hFr r hr
                · simpa using hlL
              · rcases (bit_set hrL htoL).1 hb with ⟨rfl, rfl⟩ | hb
                · rw [Int.toNat_of_nonneg hp0]
                  rcases hc with hc | ⟨h0, hc⟩
                  · exact .term p hmem hu i s hgi hem _ hc
                  · have := hI _ _ hc
                    rw [Int.toNat_of_nonneg h0] at this
                    exact .more p hmem hu i s hgi hem _ h0 this
                · exact hI a t hb
            have hsread : 0 ≤ s → ∃ gS y, rd U RA s.toNat = some (.slice (some ⟨gS, 0, none⟩) g.terms.length g.terms.length) ∧ rd U (some ⟨gS, 0, none⟩) to = some (.bool y) ∧ cellO (U.heap[gS]?) to = some (.bool y) ∧ (bit F2 s.toNat to ↔ y = true) := fun h0 => by
              have h1 : s.toNat < F2.length := by omega
              have h2 : s.toNat < gs.length := by omega
              have h3 := row_rd hR s.toNat h2
              have h4 := hM.own _ _ _ (List.getElem?_eq_getElem h2) (List.getElem?_eq_getElem h1)
              have h5 := hFr F2[s.toNat] (List.getElem_mem _)
              exact ⟨_, _, h3, h4.rd to (by omega), h4.cell to (by omega), bit_iff (List.getElem?_eq_getElem h1) (List.getElem?_eq_getElem (by omega))⟩
            generalize rL[to] = z at *
            simp (disch := first | omega | assumption | (simp only [O1, World.size_alloc, World.size_setCell, World.size_drew]; first | done | omega)) only [O1, D2, ↓H0, S0, ↓S1, ↓S2, ↓S3, ↓S4, S5, S5b, S5c, ↓S6, S6b, M0, E0, ty, tl, te, tc, i64_wrap, u64_wrap, iaV_sl, iaV_arr, faV_pa, nck_pa, heap_new, heap_old, heap_set, ↓reduceIte, Nat.reduceEqDiff, Nat.reduceLT, Nat.reduceAdd, Int.reduceLT, Int.reduceLE, decide_false, decide_true, dec_true, dec_false, true_and, and_true, true_imp_iff, Bool.not_true, Bool.not_false, Option.map_none, Int.reduceToNat, Int.toNat_zero, Int.toNat_one, lkV_false, lkV_true, f1, f3, f4, f5, f7, f8, f9, f10, f13, f14, hbx, hs]
            cases z with
            | true =>
              have hn2 := hnext (.inr (hbz.2 rfl))
              refine Br_if (fun c1 => ?_) (fun c1' => ?_) <;> (try simp (disch := first | omega | assumption | (simp only [O1, World.size_alloc, World.size_setCell, World.size_drew]; first | done | omega)) only [O1, D2, ↓H0, S0, ↓S1, ↓S2, ↓S3, ↓S4, S5, S5b, S5c, ↓S6, S6b, M0, E0, ty, tl, te, tc, i64_wrap, u64_wrap, iaV_sl, iaV_arr, faV_pa, nck_pa, heap_new, heap_old, heap_set, ↓reduceIte, Nat.reduceEqDiff, Nat.reduceLT, Nat.reduceAdd, Int.reduceLT, Int.reduceLE, decide_false, decide_true, dec_true, dec_false, true_and, and_true, true_imp_iff, Bool.not_true, Bool.not_false, Option.map_none, Int.reduceToNat, Int.toNat_zero, Int.toNat_one, lkV_false, lkV_true, f1, f3, f4, f5, f7, f8, f9, f10, f13, f14, hbx, hs, r1, hrdZ, hceZ])
              · exact ⟨k4 - 1, by omega, to + 1, F2, m, by omega, hm1, hm2, hx, hR, hM, hFr, hFl, hI, hcl, hcp, hn2, rfl, rfl⟩
              · refine Br_if (fun c2 => ?_) (fun c2' => ?_) <;> (try simp (disch := first | omega | assumption | (simp only [O1, World.size_alloc, World.size_setCell, World.size_drew]; first | done | omega)) only [O1, D2, ↓H0, S0, ↓S1, ↓S2, ↓S3, ↓S4, S5, S5b, S5c, ↓S6, S6b, M0, E0, ty, tl, te, tc, i64_wrap, u64_wrap, iaV_sl, iaV_arr, faV_pa, nck_pa, heap_new, heap_old, heap_set, ↓reduceIte, Nat.reduceEqDiff, Nat.reduceLT, Nat.reduceAdd, Int.reduceLT, Int.reduceLE, decide_false, decide_true, dec_true, dec_false, true_and, and_true, true_imp_iff, Bool.not_true, Bool.not_false, Option.map_none, Int.reduceToNat, Int.toNat_zero, Int.toNat_one, lkV_false, lkV_true, f1, f3, f4, f5, f7, f8, f9, f10, f13, f14, hbx, hs, r1, hrdZ, hceZ])
                · obtain ⟨gS, y, y1, y2, y3, _⟩ := hsread (by omega)
                  cases y with
                  | true =>
                    simp (disch := first | omega | assumption | (simp only [O1, World.size_alloc, World.size_setCell, World.size_drew]; first | done | omega)) only [O1, D2, ↓H0, S0, ↓S1, ↓S2, ↓S3, ↓S4, S5, S5b, S5c, ↓S6, S6b, M0, E0, ty, tl, te, tc, i64_wrap, u64_wrap, iaV_sl, iaV_arr, faV_pa, nck_pa, heap_new, heap_old, heap_set, ↓reduceIte, Nat.reduceEqDiff, Nat.reduceLT, Nat.reduceAdd, Int.reduceLT, Int.reduceLE, decide_false, decide_true, dec_true, dec_false, true_and, and_true, true_imp_iff, Bool.not_true, Bool.not_false, Option.map_none, Int.reduceToNat, Int.toNat_zero, Int.toNat_one, lkV_false, lkV_true, f1, f3, f4, f5, f7, f8, f9, f10, f13, f14, hbx, hs, r1, hrdZ, hceZ, y1, y2, y3]
                    exact ⟨k4 - 1, by omega, to + 1, F2, m, by omega, hm1, hm2, hx, hR, hM, hFr, hFl, hI, hcl, hcp, hn2, rfl, rfl⟩
                  | false =>
                    simp (disch := first | omega | assumption | (simp only [O1, World.size_alloc, World.size_setCell, World.size_drew]; first | done | omega)) only [O1, D2, ↓H0, S0, ↓S1, ↓S2, ↓S3, ↓S4, S5, S5b, S5c, ↓S6, S6b, M0, E0, ty, tl, te, tc, i64_wrap, u64_wrap, iaV_sl, iaV_arr, faV_pa, nck_pa, heap_new, heap_old, heap_set, ↓reduceIte, Nat.reduceEqDiff, Nat.reduceLT, Nat.reduceAdd, Int.reduceLT, Int.reduceLE, decide_false, decide_true, dec_true, dec_false, true_and, and_true, true_imp_iff, Bool.not_true, Bool.not_false, Option.map_none, Int.reduceToNat, Int.toNat_zero, Int.toNat_one, lkV_false, lkV_true, f1, f3, f4, f5, f7, f8, f9, f10, f13, f14, hbx, hs, r1, hrdZ, hceZ, y1, y2, y3]
                    exact ⟨k4 - 1, by omega, to + 1, F2, m, by omega, hm1, hm2, hx, hR, hM, hFr, hFl, hI, hcl, hcp, hn2, rfl, rfl⟩
                · exact ⟨k4 - 1, by omega, to + 1, F2, m, by omega, hm1, hm2, hx, hR, hM, hFr, hFl, hI, hcl, hcp, hn2, rfl, rfl⟩
            | false =>
              refine Br_if (fun c1 => ?_) (fun c1' => ?_) <;> (try simp (disch := first | omega | assumption | (simp only [O1, World.size_alloc, World.size_setCell, World.size_drew]; first | done | omega)) only [O1, D2, ↓H0, S0, ↓S1, ↓S2, ↓S3, ↓S4, S5, S5b, S5c, ↓S6, S6b, M0, E0, ty, tl, te, tc, i64_wrap, u64_wrap, iaV_sl, iaV_arr, faV_pa, nck_pa, heap_new, heap_old, heap_set, ↓reduceIte, Nat.reduceEqDiff, Nat.reduceLT, Nat.reduceAdd, Int.reduceLT, Int.reduceLE, decide_false, decide_true, dec_true, dec_false, true_and, and_true, true_imp_iff, Bool.not_true, Bool.not_false, Option.map_none, Int.reduceToNat, Int.toNat_zero, Int.toNat_one, lkV_false, lkV_true, f1, f3, f4, f5, f7, f8, f9, f10, f13, f14, hbx, hs, r1, hrdZ, hceZ, hst])
              · obtain ⟨n1, n2, n3, n4, n5, n6, n7⟩ := hnew hzq (.inl (by omega))
                exact ⟨k4 - 1, by omega, to + 1, _, true, by omega, fun _ => n1, by omega, n2, n3, n4, n5, n6, n7, by simp, by simp, by simp, rfl, rfl⟩
              · refine Br_if (fun c2 => ?_) (fun c2' => ?_) <;> (try simp (disch := first | omega | assumption | (simp only [O1, World.size_alloc, World.size_setCell, World.size_drew]; first | done | omega)) only [O1, D2, ↓H0, S0, ↓S1, ↓S2, ↓S3, ↓S4, S5, S5b, S5c, ↓S6, S6b, M0, E0, ty, tl, te, tc, i64_wrap, u64_wrap, iaV_sl, iaV_arr, faV_pa, nck_pa, heap_new, heap_old, heap_set, ↓reduceIte, Nat.reduceEqDiff, Nat.reduceLT, Nat.reduceAdd, Int.reduceLT, Int.reduceLE, decide_false, decide_true, dec_true, dec_false, true_and, and_true, true_imp_iff, Bool.not_true, Bool.not_false, Option.map_none, Int.reduceToNat, Int.toNat_zero, Int.toNat_one, lkV_false, lkV_true, f1, f3, f4, f5, f7, f8, f9, f10, f13, f14, hbx, hs, r1, hrdZ, hceZ, hst])
                · obtain ⟨gS, y, y1, y2, y3, y4⟩ := hsread (by omega)
                  cases y with
                  | true =>
                    simp (disch := first | omega | assumption | (simp only [O1, World.size_alloc, World.size_setCell, World.size_drew]; first | done | omega)) only [O1, D2, ↓H0, S0, ↓S1, ↓S2, ↓S3, ↓S4, S5, S5b, S5c, ↓S6, S6b, M0, E0, ty, tl, te, tc, i64_wrap, u64_wrap, iaV_sl, iaV_arr, faV_pa, nck_pa, heap_new, heap_old, heap_set, ↓reduceIte, Nat.reduceEqDiff, Nat.reduceLT, Nat.reduceAdd, Int.reduceLT, Int.reduceLE, decide_false, decide_true, dec_true, dec_false, true_and, and_true, true_imp_iff, Bool.not_true, Bool.not_false, Option.map_none, Int.reduceToNat, Int.toNat_zero, Int.toNat_one, lkV_false, lkV_true, f1, f3, f4, f5, f7, f8, f9, f10, f13, f14, hbx, hs, r1, hrdZ, hceZ, hst, y1, y2, y3]
                    obtain ⟨n1, n2, n3, n4, n5, n6, n7⟩ := hnew hzq (.inr ⟨by omega, y4.2 rfl⟩)
                    exact ⟨k4 - 1, by omega, to + 1, _, true, by omega, fun _ => n1, by omega, n2, n3, n4, n5, n6, n7, by simp, by simp, by simp, rfl, rfl⟩
                  | false =>
                    simp (disch := first | omega | assumption | (simp only [O1, World.size_alloc, World.size_setCell, World.size_drew]; first | done | omega)) only [O1, D2, ↓H0, S0, ↓S1, ↓S2, ↓S3, ↓S4, S5, S5b, S5c, ↓S6, S6b, M0, E0, ty, tl, te, tc, i64_wrap, u64_wrap, iaV_sl, iaV_arr, faV_pa, nck_pa, heap_new, heap_old, heap_set, ↓reduceIte, Nat.reduceEqDiff, Nat.reduceLT, Nat.reduceAdd, Int.reduceLT, Int.reduceLE, decide_false, decide_true, dec_true, dec_false, true_and, and_true, true_imp_iff, Bool.not_true, Bool.not_false, Option.map_none, Int.reduceToNat, Int.toNat_zero, Int.toNat_one, lkV_false, lkV_true, f1, f3, f4, f5, f7, f8, f9, f10, f13, f14, hbx, hs, r1, hrdZ, hceZ, y1, y2, y3]
                    exact ⟨k4 - 1, by omega, to + 1, F2, m, by omega, hm1, hm2, hx, hR, hM, hFr, hFl, hI, hcl, hcp, hnext (.inl fun hc => by
                      rcases hc with hc | ⟨_, hc⟩
                      · omega
                      · have := y4.1 hc; cases this), rfl, rfl⟩
                · exact ⟨k4 - 1, by omega, to + 1, F2, m, by omega, hm1, hm2, hx, hR, hM, hFr, hFl, hI, hcl, hcp, hnext (.inl fun hc => by omega), rfl, rfl⟩
          · have hcs : m = false → ClosF g.prods g.terms.length F2 p (i + 1) := fun hm hu' jx sx hjx hsx he t ht hh => by
              by_cases e : jx = i
              · subst e
                rw [hgi] at hsx; simp only [Option.some.injEq] at hsx; subst hsx
                exact hct hm t (by omega) hh
              · exact hcp hm hu' jx sx (by omega) hsx he t ht hh
            simp (disch := first | omega | assumption | (simp only [O1, World.size_alloc, World.size_setCell, World.size_drew]; first | done | omega)) only [O1, D2, ↓H0, S0, ↓S1, ↓S2, ↓S3, ↓S4, S5, S5b, S5c, ↓S6, S6b, M0, E0, ty, tl, te, tc, i64_wrap, u64_wrap, iaV_sl, iaV_arr, faV_pa, nck_pa, heap_new, heap_old, heap_set, ↓reduceIte, Nat.reduceEqDiff, Nat.reduceLT, Nat.reduceAdd, Int.reduceLT, Int.reduceLE, decide_false, decide_true, dec_true, dec_false, true_and, and_true, true_imp_iff, Bool.not_true, Bool.not_false, Option.map_none, Int.reduceToNat, Int.toNat_zero, Int.toNat_one, lkV_false, lkV_true, f1, f3, f4, f5, f7, f8, f9, f10, f13, f14, hbx, hs]
            refine Br_if (fun c => ?_) (fun c' => ?_) <;> (try simp (disch := first | omega | assumption | (simp only [O1, World.size_alloc, World.size_setCell, World.size_drew]; first | done | omega)) only [O1, D2, ↓H0, S0, ↓S1, ↓S2, ↓S3, ↓S4, S5, S5b, S5c, ↓S6, S6b, M0, E0, ty, tl, te, tc, i64_wrap, u64_wrap, iaV_sl, iaV_arr, faV_pa, nck_pa, heap_new, heap_old, heap_set, ↓reduceIte, Nat.reduceEqDiff, Nat.reduceLT, Nat.reduceAdd, Int.reduceLT, Int.reduceLE, decide_false, decide_true, dec_true, dec_false, true_and, and_true, true_imp_iff, Bool.not_true, Bool.not_false, Option.map_none, Int.reduceToNat, Int.toNat_zero, Int.toNat_one, lkV_false, lkV_true, f1, f3, f4, f5, f7, f8, f9, f10, f13, f14, hbx, hs])
            · have hsl : s.toNat < nl.length := by rw [hTl.1]; omega
              have hrn := hx.rd (hNA s.toNat hsl)
              have hNs := rd_isSome hrn
              have hgn := hTl.2 s.toNat (by omega)
              rw [List.getElem?_eq_getElem hsl, Int.toNat_of_nonneg (by omega)] at hgn
              simp only [Option.some.injEq] at hgn
              generalize nl[s.toNat] = y at *
              simp (disch := first | omega | assumption | (simp only [O1, World.size_alloc, World.size_setCell, World.size_drew]; first | done | omega)) only [O1, D2, ↓H0, S0, ↓S1, ↓S2, ↓S3, ↓S4, S5, S5b, S5c, ↓S6, S6b, M0, E0, ty, tl, te, tc, i64_wrap, u64_wrap, iaV_sl, iaV_arr, faV_pa, nck_pa, heap_new, heap_old, heap_set, ↓reduceIte, Nat.reduceEqDiff, Nat.reduceLT, Nat.reduceAdd, Int.reduceLT, Int.reduceLE, decide_false, decide_true, dec_true, dec_false, true_and, and_true, true_imp_iff, Bool.not_true, Bool.not_false, Option.map_none, Int.reduceToNat, Int.toNat_zero, Int.toNat_one, lkV_false, lkV_true, f1, f3, f4, f5, f7, f8, f9, f10, f13, f14, hbx, hs, hrn]
              exact ⟨k3 - 1, by omega, i + 1, F2, m, y, by omega, hm1, hm2, hx, hR, hM, hFr, hFl, hI, hcl, hcs, by rw [Empties.next hgi, hgn]; exact ⟨fun h => ⟨hu, hem, by omega, h⟩, fun h => h.2.2.2⟩, rfl, rfl, rfl⟩
            · exact ⟨k3 - 1, by omega, i + 1, F2, m, false, by omega, hm1, hm2, hx, hR, hM, hFr, hFl, hI, hcl, hcs, by rw [Empties.next hgi]; exact ⟨fun h => by (cases h), fun h => by (have := h.2.2.1; omega)⟩, rfl, rfl, rfl⟩
      · exact ⟨k2 - 1, by omega, j + 1, F2, m, by omega, hm1, hm2, hx, hR, hM, hFr, hFl, hI, leave (fun h => q' (by omega)), rfl, rfl⟩
    · have hj : j = g.prods.length := by omega
      refine ⟨2 * zeros F2 + (if m then 1 else 0), ?_, F2, m, rfl, hx, hR, hM, hFr, hFl, hI, fun hm p hp => ?_, rfl⟩
      · cases m with
        | true => have := hm1 rfl; simp; omega
        | false => simp; omega
      · obtain ⟨i, hi, rfl⟩ := List.mem_iff_getElem.1 hp
        exact hcl hm i hi (by omega)
end Go.Proofs.Ytgioklmpnbnplaa
namespace Go.Proofs.Ytgioklmpnbnplaa
open Go.V

/-- The nonterminals at the front of a right side, up to the first one that is not empty. -/
def scanE (nl : Int → Bool) : List Int → List Int
  | [] => []
  | s :: r => if s < 0 then [] else if nl s = true then s :: scanE nl r else [s]
/-- The terminal at the front, where all ahead of it may be empty. -/
def scanT (nl : Int → Bool) : List Int → Option Int
  | [] => none
  | s :: r => if s < 0 then some (-1 - s) else if nl s = true then scanT nl r else none
theorem scanE_iff {nl : Int → Bool} {b : Int} : ∀ {r : List Int}, b ∈ scanE nl r ↔ ∃ i : Nat, r[i]? = some b ∧ 0 ≤ b ∧ ∀ (j : Nat) x, j < i → r[j]? = some x → 0 ≤ x ∧ nl x = true
  | [] => by simp [scanE]
  | s :: r => by
    unfold scanE
    constructor
    · intro h
      split at h
      · simp at h
      · split at h
        · rcases List.mem_cons.1 h with rfl | h
          · exact ⟨0, rfl, by omega, fun j x hj => by omega⟩
          · obtain ⟨i, h1, h2, h3⟩ := scanE_iff.1 h
            refine ⟨i + 1, h1, h2, fun j x hj hx => ?_⟩
            cases j with
            | zero => simp at hx; subst hx; exact ⟨by omega, by assumption⟩
            | succ j => exact h3 j x (by omega) (by simpa using hx)
        · simp at h; subst h; exact ⟨0, rfl, by omega, fun j x hj => by omega⟩
    · rintro ⟨i, h1, h2, h3⟩
      cases i with
      | zero =>
        simp at h1; subst h1
        rw [if_neg (by omega)]
        split <;> simp
      | succ i =>
        obtain ⟨h4, h5⟩ := h3 0 s (by omega) rfl
        rw [if_neg (by omega), if_pos h5]
        exact List.mem_cons_of_mem _ (scanE_iff.2 ⟨i, by simpa using h1, h2, fun j x hj hx => h3 (j + 1) x (by omega) (by simpa using hx)⟩)
theorem scanT_iff {nl : Int → Bool} {t : Nat} : ∀ {r : List Int}, scanT nl r = some (t : Int) ↔ ∃ i : Nat, r[i]? = some (-1 - (t : Int)) ∧ ∀ (j : Nat) x, j < i → r[j]? = some x → 0 ≤ x ∧ nl x = true
  | [] => by simp [scanT]
  | s :: r => by
    unfold scanT
    constructor
    · intro h
      split at h
      · simp only [Option.some.injEq] at h
        exact ⟨0, by simp; omega, fun j x hj => by omega⟩
      · split at h
        · obtain ⟨i, h1, h3⟩ := scanT_iff.1 h
          refine ⟨i + 1, h1, fun j x hj hx => ?_⟩
          cases j with
          | zero => simp at hx; subst hx; exact ⟨by omega, by assumption⟩
          | succ j => exact h3 j x (by omega) (by simpa using hx)
        · cases h
    · rintro ⟨i, h1, h3⟩
      cases i with
      | zero =>
        simp at h1; subst h1
        rw [if_pos (by omega)]
        congr 1; omega
      | succ i =>
        obtain ⟨h4, h5⟩ := h3 0 s (by omega) rfl
        rw [if_neg (by omega), if_pos h5]
        exact scanT_iff.2 ⟨i, by simpa using h1, fun j x hj hx => h3 (j + 1) x (by omega) (by simpa using hx)⟩
/-- One step of First. -/
def StE (ps : List (Int × List Int)) (nl : Int → Bool) (a b : Int) : Prop := ∃ p ∈ ps, p.1 = a ∧ Usable ps p.2 ∧ b ∈ scanE nl p.2
def StT (ps : List (Int × List Int)) (nl : Int → Bool) (a : Int) (t : Nat) : Prop := ∃ p ∈ ps, p.1 = a ∧ Usable ps p.2 ∧ scanT nl p.2 = some (t : Int)
theorem first_iff {ps : List (Int × List Int)} {nl : Int → Bool} (hnl : ∀ p ∈ ps, ∀ x ∈ p.2, 0 ≤ x → (nl x = true ↔ Gen false ps x)) {a : Int} {t : Nat} : Fst ps a t ↔ ∃ b, Reach (StE ps nl) [a] b ∧ StT ps nl b t := by
  have hE : ∀ p ∈ ps, ∀ i : Nat, (∀ (j : Nat) x, j < i → p.2[j]? = some x → 0 ≤ x ∧ nl x = true) ↔ Empties ps p.2 i := fun p hp i =>
    ⟨fun h j x hj hx => ⟨(h j x hj hx).1, (hnl p hp x (List.mem_of_getElem? hx) (h j x hj hx).1).1 (h j x hj hx).2⟩, fun h j x hj hx => ⟨(h j x hj hx).1, (hnl p hp x (List.mem_of_getElem? hx) (h j x hj hx).1).2 (h j x hj hx).2⟩⟩
  have cons : ∀ {a c x : Int}, StE ps nl a c → Reach (StE ps nl) [c] x → Reach (StE ps nl) [a] x := fun {a c x} h hr => by
    induction hr with
    | base hb => simp at hb; subst hb; exact .step (.base (by simp)) h
    | step _ h2 ih => exact .step ih h2
  constructor
  · intro h
    induction h with
    | term p hp hu i s hi hn t ht => exact ⟨p.1, .base (by simp), p, hp, rfl, hu, scanT_iff.2 ⟨i, by rw [← ht]; exact hi, (hE p hp i).2 hn⟩⟩
    | more p hp hu i s hi hn t h0 h ih =>
      obtain ⟨b, h1, h2⟩ := ih
      exact ⟨b, cons ⟨p, hp, rfl, hu, scanE_iff.2 ⟨i, hi, h0, (hE p hp i).2 hn⟩⟩ h1, h2⟩
  · rintro ⟨b, h1, h2⟩
    have key : ∀ c, Reach (StE ps nl) [a] c → Fst ps c t → Fst ps a t := by
      intro c hc
      induction hc with
      | base hb => simp at hb; subst hb; exact id
      | step hc h2 ih =>
        intro hf
        obtain ⟨p, hp, rfl, hu, hm⟩ := h2
        obtain ⟨i, hi, h0, hn⟩ := scanE_iff.1 hm
        exact ih (.more p hp hu i _ hi ((hE p hp i).1 hn) t h0 hf)
    refine key b h1 ?_
    obtain ⟨p, hp, rfl, hu, ht⟩ := h2
    obtain ⟨i, hi, hn⟩ := scanT_iff.1 ht
    exact .term p hp hu i _ hi ((hE p hp i).1 hn) t rfl
end Go.Proofs.Ytgioklmpnbnplaa
namespace Go.Proofs.Ytgioklmpnbnplaa
open Go.V

def stUp (us : List Int → Bool) (nl : Int → Bool) (ps : List (Int × List Int)) (a : Int) : Nat → List Int
  | 0 => []
  | i + 1 => stUp us nl ps a i ++ if (ps.getD i (0, [])).1 = a ∧ us (ps.getD i (0, [])).2 = true then scanE nl (ps.getD i (0, [])).2 else []
def tmUp (us : List Int → Bool) (nl : Int → Bool) (ps : List (Int × List Int)) (a : Int) : Nat → List Int
  | 0 => []
  | i + 1 => tmUp us nl ps a i ++ if (ps.getD i (0, [])).1 = a ∧ us (ps.getD i (0, [])).2 = true then (scanT nl (ps.getD i (0, [])).2).toList else []
/-- A set of numbers as a map. -/
def setF (l : List Int) (k : Int) : Option Value := if k ∈ l then some (.bool true) else none
theorem stUp_mem {us : List Int → Bool} {nl : Int → Bool} {ps : List (Int × List Int)} {a b : Int} : ∀ {m : Nat}, b ∈ stUp us nl ps a m ↔ ∃ i, i < m ∧ (ps.getD i (0, [])).1 = a ∧ us (ps.getD i (0, [])).2 = true ∧ b ∈ scanE nl (ps.getD i (0, [])).2
  | 0 => by simp [stUp]
  | m + 1 => by
    rw [stUp, List.mem_append, stUp_mem]
    constructor
    · rintro (⟨i, h1, h2⟩ | h)
      · exact ⟨i, by omega, h2⟩
      · split at h
        · rename_i e; exact ⟨m, by omega, e.1, e.2, h⟩
        · simp at h
    · rintro ⟨i, h1, h2, h3, h4⟩
      by_cases e : i = m
      · subst e; right; rw [if_pos ⟨h2, h3⟩]; exact h4
      · exact .inl ⟨i, by omega, h2, h3, h4⟩
theorem tmUp_mem {us : List Int → Bool} {nl : Int → Bool} {ps : List (Int × List Int)} {a b : Int} : ∀ {m : Nat}, b ∈ tmUp us nl ps a m ↔ ∃ i, i < m ∧ (ps.getD i (0, [])).1 = a ∧ us (ps.getD i (0, [])).2 = true ∧ scanT nl (ps.getD i (0, [])).2 = some b
  | 0 => by simp [tmUp]
  | m + 1 => by
    rw [tmUp, List.mem_append, tmUp_mem]
    constructor
    · rintro (⟨i, h1, h2⟩ | h)
      · exact ⟨i, by omega, h2⟩
      · split at h
        · rename_i e; exact ⟨m, by omega, e.1, e.2, by simpa using h⟩
        · simp at h
    · rintro ⟨i, h1, h2, h3, h4⟩
      by_cases e : i = m
      · subst e; right; rw [if_pos ⟨h2, h3⟩]; simpa using h4
      · exact .inl ⟨i, by omega, h2, h3, h4⟩
theorem stUp_len {us : List Int → Bool} {nl : Int → Bool} {ps : List (Int × List Int)} {a : Int} {m : Nat} (h : ∀ p ∈ ps, p.2.length ≤ 16) : (stUp us nl ps a m).length ≤ 16 * m := by
  have hs : ∀ r : List Int, (scanE nl r).length ≤ r.length := by
    intro r
    induction r with
    | nil => simp [scanE]
    | cons x r ih =>
      unfold scanE
      split
      · simp
      · split
        · simpa using ih
        · simp
  induction m with
  | zero => simp [stUp]
  | succ m ih =>
    rw [stUp, List.length_append]
    have : (scanE nl (ps.getD m (0, [])).2).length ≤ 16 := by
      refine Nat.le_trans (hs _) ?_
      rw [List.getD_eq_getElem?_getD]
      cases hq : ps[m]? with
      | none => simp
      | some p => exact h p (List.mem_of_getElem? hq)
    split
    · omega
    · simp; omega
theorem stUp_ok {us : List Int → Bool} {nl : Int → Bool} {ps : List (Int × List Int)} {a : Int} {i : Nat} {p : Int × List Int} (h : ps.getD i (0, []) = p) (hu : us p.2 = true) : stUp us nl ps a (i + 1) = stUp us nl ps a i ++ if p.1 = a then scanE nl p.2 else [] := by rw [stUp, h]; simp [hu]
theorem tmUp_ok {us : List Int → Bool} {nl : Int → Bool} {ps : List (Int × List Int)} {a : Int} {i : Nat} {p : Int × List Int} (h : ps.getD i (0, []) = p) (hu : us p.2 = true) : tmUp us nl ps a (i + 1) = tmUp us nl ps a i ++ if p.1 = a then (scanT nl p.2).toList else [] := by rw [tmUp, h]; simp [hu]
theorem stUp_no {us : List Int → Bool} {nl : Int → Bool} {ps : List (Int × List Int)} {a : Int} {i : Nat} {p : Int × List Int} (h : ps.getD i (0, []) = p) (hu : us p.2 = false) : stUp us nl ps a (i + 1) = stUp us nl ps a i := by rw [stUp, h]; simp [hu]
theorem tmUp_no {us : List Int → Bool} {nl : Int → Bool} {ps : List (Int × List Int)} {a : Int} {i : Nat} {p : Int × List Int} (h : ps.getD i (0, []) = p) (hu : us p.2 = false) : tmUp us nl ps a (i + 1) = tmUp us nl ps a i := by rw [tmUp, h]; simp [hu]
theorem setF_push (l : List Int) (x : Int) : setF (l ++ [x]) = fun k => if k = x then some (.bool true) else setF l k := by
  funext k
  unfold setF
  by_cases h : k = x
  · subst h; simp
  · simp [h]
end Go.Proofs.Ytgioklmpnbnplaa
namespace Go.Proofs.Ytgioklmpnbnplaa
open Go.V

def accL (tm : Nat → List Int) (l : List Bool) : Nat → List Int
  | 0 => []
  | j + 1 => accL tm l j ++ if l.getD j false = true then tm j else []
theorem accL_mem {tm : Nat → List Int} {l : List Bool} {x : Int} : ∀ {m : Nat}, x ∈ accL tm l m ↔ ∃ s, s < m ∧ l.getD s false = true ∧ x ∈ tm s
  | 0 => by simp [accL]
  | m + 1 => by
    rw [accL, List.mem_append, accL_mem]
    constructor
    · rintro (⟨i, h1, h2⟩ | h)
      · exact ⟨i, by omega, h2⟩
      · split at h
        · rename_i e; exact ⟨m, by omega, e, h⟩
        · simp at h
    · rintro ⟨i, h1, h2, h3⟩
      by_cases e : i = m
      · subst e; right; rw [if_pos h2]; exact h3
      · exact .inl ⟨i, by omega, h2, h3⟩
theorem setF_app (a b : List Int) : (fun k => match setF b k with | some v => some v | none => setF a k) = setF (a ++ b) := by
  funext k
  unfold setF
  by_cases h : k ∈ b
  · simp [h]
  · by_cases h2 : k ∈ a <;> simp [h, h2]
theorem getD_at {ps : List (Int × List Int)} {i : Nat} (hi : i < ps.length) : ps.getD i (0, []) = ps[i] := by simp [List.getD_eq_getElem?_getD, List.getElem?_eq_getElem hi]
section
variable {ps : List (Int × List Int)} {us : List Int → Bool} {nl : Int → Bool}
theorem stE_iff (hus : ∀ p ∈ ps, us p.2 = true ↔ Usable ps p.2) {a b : Int} : b ∈ stUp us nl ps a ps.length ↔ StE ps nl a b := by
  rw [stUp_mem]
  constructor
  · rintro ⟨i, hi, h1, h2, h3⟩
    rw [getD_at hi] at h1 h2 h3
    have hm : ps[i] ∈ ps := List.getElem_mem hi
    exact ⟨_, hm, h1, (hus _ hm).1 h2, h3⟩
  · rintro ⟨p, hp, h1, h2, h3⟩
    obtain ⟨i, hi, rfl⟩ := List.mem_iff_getElem.1 hp
    exact ⟨i, hi, by rw [getD_at hi]; exact h1, by rw [getD_at hi]; exact (hus _ hp).2 h2, by rw [getD_at hi]; exact h3⟩
theorem stT_iff (hus : ∀ p ∈ ps, us p.2 = true ↔ Usable ps p.2) {a x : Int} : x ∈ tmUp us nl ps a ps.length ↔ ∃ t : Nat, x = t ∧ StT ps nl a t := by
  rw [tmUp_mem]
  constructor
  · rintro ⟨i, hi, h1, h2, h3⟩
    rw [getD_at hi] at h1 h2 h3
    have hm : ps[i] ∈ ps := List.getElem_mem hi
    have h0 : ∀ (r : List Int) (y : Int), scanT nl r = some y → 0 ≤ y := by
      intro r
      induction r with
      | nil => intro y h; simp [scanT] at h
      | cons s r ih =>
        intro y h
        unfold scanT at h
        split at h
        · simp only [Option.some.injEq] at h; omega
        · split at h
          · exact ih y h
          · cases h
    have := h0 _ _ h3
    refine ⟨x.toNat, by omega, _, hm, h1, (hus _ hm).1 h2, ?_⟩
    rw [h3, Int.toNat_of_nonneg this]
  · rintro ⟨t, rfl, p, hp, h1, h2, h3⟩
    obtain ⟨i, hi, rfl⟩ := List.mem_iff_getElem.1 hp
    exact ⟨i, hi, by rw [getD_at hi]; exact h1, by rw [getD_at hi]; exact (hus _ hp).2 h2, by rw [getD_at hi]; exact h3⟩
theorem fst_row {n : Nat} (hin : InR n ps) (hus : ∀ p ∈ ps, us p.2 = true ↔ Usable ps p.2) (hnl : ∀ p ∈ ps, ∀ x ∈ p.2, 0 ≤ x → (nl x = true ↔ Gen false ps x)) {F : List (List Int)} (hFl : F.length = n) (hF : ∀ s : Nat, s < n → F[s]? = some (stUp us nl ps s ps.length)) {a : Nat} (ha : a < n) {l : List Bool} (hl : Tells n (Reach (Sx F) [(a : Int)]) l) (x : Int) :
    x ∈ accL (fun s => tmUp us nl ps s ps.length) l n ↔ ∃ t : Nat, x = t ∧ Fst ps a t := by
  have hS : Sx F = StE ps nl := by
    funext a b
    refine propext ⟨fun ⟨h0, hb⟩ => ?_, fun h => ?_⟩
    · rw [List.getD_eq_getElem?_getD] at hb
      cases hq : F[a.toNat]? with
      | none => rw [hq] at hb; simp at hb
      | some r =>
        have hlt : a.toNat < n := by rw [← hFl]; exact (List.getElem?_eq_some_iff.1 hq).1
        rw [hF _ hlt] at hb
        have := (stE_iff hus).1 hb
        rwa [Int.toNat_of_nonneg h0] at this
    · obtain ⟨p, hp, rfl, h2⟩ := id h
      obtain ⟨⟨hp0, hp1⟩, _⟩ := hin p hp
      refine ⟨hp0, ?_⟩
      have hlt : p.1.toNat < n := by omega
      rw [List.getD_eq_getElem?_getD, hF _ hlt]
      exact (stE_iff hus).2 (by rwa [Int.toNat_of_nonneg hp0])
  rw [hS] at hl
  have hg : ∀ s : Nat, s < n → (l.getD s false = true ↔ Reach (StE ps nl) [(a : Int)] s) := fun s hs => by
    rw [← hl.2 s hs, List.getD_eq_getElem?_getD]
    cases l[s]? <;> simp
  have hrng : ∀ b, Reach (StE ps nl) [(a : Int)] b → 0 ≤ b ∧ b < n := by
    intro b hb
    cases hb with
    | base h => simp at h; subst h; omega
    | step h h2 =>
      obtain ⟨p, hp, _, _, h3⟩ := h2
      obtain ⟨i, h4, h5, _⟩ := scanE_iff.1 h3
      exact ⟨h5, (hin p hp).2 _ (List.mem_of_getElem? h4)⟩
  rw [accL_mem]
  constructor
  · rintro ⟨s, hs, h1, h2⟩
    obtain ⟨t, rfl, h3⟩ := (stT_iff hus).1 h2
    exact ⟨t, rfl, (first_iff hnl).2 ⟨s, (hg s hs).1 h1, h3⟩⟩
  · rintro ⟨t, rfl, h⟩
    obtain ⟨b, h1, h2⟩ := (first_iff hnl).1 h
    obtain ⟨h0, h3⟩ := hrng b h1
    have e : ((b.toNat : Nat) : Int) = b := Int.toNat_of_nonneg h0
    exact ⟨b.toNat, by omega, (hg _ (by omega)).2 (by rwa [e]), (stT_iff hus).2 ⟨t, rfl, by rwa [e]⟩⟩
/-- The first terminals are terminals. -/
theorem fst_lt {m : Nat} (hlo : ∀ p ∈ ps, ∀ s ∈ p.2, -(m : Int) ≤ s) {a : Int} {t : Nat} (h : Fst ps a t) : t < m := by
  induction h with
  | term p hp hu i s hi hn t ht => subst ht; have := hlo p hp _ (List.mem_of_getElem? hi); omega
  | more p hp hu i s hi hn t h0 h ih => exact ih
end
end Go.Proofs.Ytgioklmpnbnplaa
namespace Go.Proofs.Ytgioklmpnbnplaa
open Go.V

/-- The places of a row of bits that are set, below j. -/
def asc (r : List Bool) : Nat → List Int
  | 0 => []
  | j + 1 => asc r j ++ if r.getD j false = true then [(j : Int)] else []
theorem asc_mem {r : List Bool} {x : Int} : ∀ {j : Nat}, x ∈ asc r j ↔ ∃ t : Nat, x = t ∧ t < j ∧ r[t]? = some true
  | 0 => by simp [asc]
  | j + 1 => by
    have hg : ∀ t : Nat, r.getD t false = true ↔ r[t]? = some true := fun t => by
      rw [List.getD_eq_getElem?_getD]; cases r[t]? <;> simp
    rw [asc, List.mem_append, asc_mem]
    constructor
    · rintro (⟨t, h1, h2, h3⟩ | h)
      · exact ⟨t, h1, by omega, h3⟩
      · split at h
        · rename_i e; simp at h; exact ⟨j, h, by omega, (hg j).1 e⟩
        · simp at h
    · rintro ⟨t, rfl, h2, h3⟩
      by_cases e : t = j
      · subst e; right; rw [if_pos ((hg t).2 h3)]; simp
      · exact .inl ⟨t, rfl, by omega, h3⟩
theorem asc_lt {r : List Bool} : ∀ {j : Nat}, (asc r j).Pairwise (· < ·)
  | 0 => by simp [asc]
  | j + 1 => by
    rw [asc, List.pairwise_append]
    refine ⟨asc_lt, by split <;> simp, fun a ha b hb => ?_⟩
    obtain ⟨t, rfl, h1, _⟩ := asc_mem.1 ha
    split at hb
    · simp at hb; omega
    · simp at hb
theorem asc_pre {r : List Bool} {j : Nat} : ∀ {m : Nat}, j ≤ m → ∃ s, asc r m = asc r j ++ s
  | 0, h => by
    have : j = 0 := by omega
    subst this; exact ⟨[], by simp⟩
  | m + 1, h => by
    by_cases e : j = m + 1
    · subst e; exact ⟨[], by simp⟩
    · obtain ⟨s, hs⟩ := asc_pre (r := r) (show j ≤ m by omega)
      exact ⟨s ++ if r.getD m false = true then [(m : Int)] else [], by rw [asc, hs, List.append_assoc]⟩
theorem asc_at {r : List Bool} {j m : Nat} (h : j < m) (hb : r.getD j false = true) : (asc r m)[(asc r j).length]? = some (j : Int) := by
  obtain ⟨s, hs⟩ := asc_pre (r := r) (show j + 1 ≤ m by omega)
  rw [hs, asc, if_pos hb]
  simp
theorem asc_len {r : List Bool} : ∀ {j : Nat}, (asc r j).length ≤ j
  | 0 => by simp [asc]
  | j + 1 => by
    rw [asc, List.length_append]
    have := asc_len (r := r) (j := j)
    split <;> simp <;> omega
/-- Two strictly ascending rows of the same numbers are the same. -/
theorem asc_uniq : ∀ {a b : List Int}, a.Pairwise (· < ·) → b.Pairwise (· < ·) → (∀ x, x ∈ a ↔ x ∈ b) → a = b
  | [], [], _, _, _ => rfl
  | [], y :: b, _, _, h => by have := (h y).2 (by simp); simp at this
  | x :: a, [], _, _, h => by have := (h x).1 (by simp); simp at this
  | x :: a, y :: b, ha, hb, h => by
    rw [List.pairwise_cons] at ha hb
    have e : x = y := by
      have h1 := (h x).1 (by simp)
      have h2 := (h y).2 (by simp)
      rcases List.mem_cons.1 h1 with h1 | h1
      · exact h1
      · rcases List.mem_cons.1 h2 with h2 | h2
        · exact h2.symm
        · have := hb.1 x h1; have := ha.1 y h2; omega
    subst e
    rw [asc_uniq ha.2 hb.2 fun z => ?_]
    constructor
    · intro hz
      have := (h z).1 (by simp [hz])
      rcases List.mem_cons.1 this with e | h2
      · subst e; have := ha.1 z hz; omega
      · exact h2
    · intro hz
      have := (h z).2 (by simp [hz])
      rcases List.mem_cons.1 this with e | h2
      · subst e; have := hb.1 z hz; omega
      · exact h2
end Go.Proofs.Ytgioklmpnbnplaa
