/- Closing a set of items: the plain law. Conditions: none. -/
import Derived.Test.YtgioklmpnbnplaaEa
import Derived.Test.YtgioklmpnbnplaaDv
set_option linter.unusedSimpArgs false
set_option linter.unusedVariables false
namespace Go.Proofs.Ytgioklmpnbnplaa
open Go.V

theorem tr_inj {i d f i' d' f' : Nat} (h : tr i d f = tr i' d' f') : i = i' ∧ d = d' ∧ f = f' := by
  simp only [tr, Prod.mk.injEq, Int.natCast_inj] at h; exact h
theorem mem_addL {l : List Tri} {x y : Tri} : y ∈ addL l x ↔ y ∈ l ∨ y = x := by
  unfold addL
  by_cases h : x ∈ l
  · rw [if_pos h]; exact ⟨.inl, fun hh => hh.elim id fun e => e ▸ h⟩
  · rw [if_neg h]; simp
theorem addL_pre (l : List Tri) (x : Tri) : ∃ r, addL l x = l ++ r := by
  unfold addL
  by_cases h : x ∈ l
  · exact ⟨[], by rw [if_pos h]; simp⟩
  · exact ⟨[x], by rw [if_neg h]⟩
theorem addL_nodup {l : List Tri} {x : Tri} (h : l.Nodup) : (addL l x).Nodup := by
  unfold addL
  by_cases hx : x ∈ l
  · rw [if_pos hx]; exact h
  · rw [if_neg hx, List.nodup_append]; exact ⟨h, by simp, fun a ha b hb e => by simp at hb; subst hb e; exact hx ha⟩
section
variable {ps : List (Int × List Int)} {start : Int} {word : List Int}
def SetOk (ps : List (Int × List Int)) (start : Int) (word : List Int) (k : Nat) (l : List Tri) : Prop := ∀ x, x ∈ l ↔ ∃ i d f, x = tr i d f ∧ It ps start word k i d f
theorem SetOk.iff {k : Nat} {l : List Tri} (h : SetOk ps start word k l) {i d f : Nat} : tr i d f ∈ l ↔ It ps start word k i d f := by
  rw [h]
  constructor
  · rintro ⟨i', d', f', e, h⟩
    obtain ⟨rfl, rfl, rfl⟩ := tr_inj e; exact h
  · intro h; exact ⟨i, d, f, rfl, h⟩
/-- All that one item asks of its set stands in l. -/
structure Cl1 (ps : List (Int × List Int)) (k : Nat) (L : List (List Tri)) (l : List Tri) (i d f : Nat) (p : Int × List Int) : Prop where
  pred : ∀ s, p.2[d]? = some s → 0 ≤ s → (∀ j q, ps[j]? = some q → q.1 = s → Usable ps q.2 → tr j 0 k ∈ l) ∧ (Gen false ps s → tr i (d + 1) f ∈ l)
  compl : d = p.2.length → f < k → ∀ lf, L[f]? = some lf → ∀ j d' f' q, tr j d' f' ∈ lf → ps[j]? = some q → q.2[d']? = some p.1 → tr j (d' + 1) f' ∈ l
theorem Cl1.mono {k : Nat} {L : List (List Tri)} {l l' : List Tri} {i d f : Nat} {p : Int × List Int} (h : Cl1 ps k L l i d f p) (hs : ∀ x ∈ l, x ∈ l') : Cl1 ps k L l' i d f p :=
  ⟨fun s h1 h2 => ⟨fun j q h3 h4 h5 => hs _ ((h.pred s h1 h2).1 j q h3 h4 h5), fun h3 => hs _ ((h.pred s h1 h2).2 h3)⟩, fun h1 h2 lf h3 j d' f' q h4 h5 h6 => hs _ (h.compl h1 h2 lf h3 j d' f' q h4 h5 h6)⟩
structure ClI (ps : List (Int × List Int)) (start : Int) (word : List Int) (k : Nat) (L : List (List Tri)) (l : List Tri) (n : Nat) : Prop where
  snd : ∀ x ∈ l, ∃ i d f, x = tr i d f ∧ It ps start word k i d f
  nd : l.Nodup
  le : n ≤ l.length
  cl : ∀ i d f p, tr i d f ∈ l.take n → ps[i]? = some p → Cl1 ps k L l i d f p
theorem ClI.add {k : Nat} {L : List (List Tri)} {l : List Tri} {n : Nat} (h : ClI ps start word k L l n) {i d f : Nat} (hi : It ps start word k i d f) : ClI ps start word k L (addL l (tr i d f)) n := by
  obtain ⟨r, hr⟩ := addL_pre l (tr i d f)
  refine ⟨fun x hx => ?_, addL_nodup h.nd, by rw [hr]; have := h.le; simp; omega, fun i' d' f' p h1 h2 => ?_⟩
  · rcases mem_addL.1 hx with hx | rfl
    · exact h.snd x hx
    · exact ⟨i, d, f, rfl, hi⟩
  · rw [hr, List.take_append_of_le_length h.le] at h1
    exact (h.cl i' d' f' p h1 h2).mono fun x hx => mem_addL.2 (.inl hx)
theorem ClI.next {k : Nat} {L : List (List Tri)} {l : List Tri} {n : Nat} (h : ClI ps start word k L l n) (hn : n < l.length) {i d f : Nat} (he : l[n] = tr i d f) (hc : ∀ p, ps[i]? = some p → Cl1 ps k L l i d f p) : ClI ps start word k L l (n + 1) := by
  refine ⟨h.snd, h.nd, hn, fun i' d' f' p h1 h2 => ?_⟩
  rw [List.take_succ_eq_append_getElem hn, he] at h1
  rcases List.mem_append.1 h1 with h1 | h1
  · exact h.cl _ _ _ p h1 h2
  · simp only [List.mem_singleton] at h1
    obtain ⟨rfl, rfl, rfl⟩ := tr_inj h1
    exact hc p h2
/-- What the set begins with. -/
structure Base (ps : List (Int × List Int)) (start : Int) (word : List Int) (k : Nat) (L : List (List Tri)) (l : List Tri) : Prop where
  init : k = 0 → ∀ i p, ps[i]? = some p → p.1 = start → Usable ps p.2 → tr i 0 0 ∈ l
  scan : ∀ k', k = k' + 1 → ∀ lf, L[k']? = some lf → ∀ i d f p s, tr i d f ∈ lf → ps[i]? = some p → p.2[d]? = some s → s < 0 → word[k']? = some (-1 - s) → tr i (d + 1) f ∈ l
theorem Base.mono {k : Nat} {L : List (List Tri)} {l l' : List Tri} (h : Base ps start word k L l) (hs : ∀ x ∈ l, x ∈ l') : Base ps start word k L l' :=
  ⟨fun h1 i p h2 h3 h4 => hs _ (h.init h1 i p h2 h3 h4), fun k' h1 lf h2 i d f p s h3 h4 h5 h6 h7 => hs _ (h.scan k' h1 lf h2 i d f p s h3 h4 h5 h6 h7)⟩
theorem ClI.done (hl : Lefts ps) {k : Nat} {L : List (List Tri)} {l : List Tri} (h : ClI ps start word k L l l.length) (hb : Base ps start word k L l) (hL : ∀ f, f < k → ∃ lf, L[f]? = some lf ∧ SetOk ps start word f lf) : SetOk ps start word k l := by
  have key : ∀ k' i d f, It ps start word k' i d f → k' = k → tr i d f ∈ l := by
    intro k' i d f hI
    induction hI with
    | init hi hs hu => intro e; exact hb.init e.symm _ _ hi hs hu
    | @pred k' i d f j p q s h1 hi hs h0 hj hq hu ih =>
      intro e
      subst e
      have := ih rfl
      exact ((h.cl i d f p (by rw [List.take_length]; exact this) hi).pred s hs h0).1 j q hj hq hu
    | @scan k' i d f p s h1 hi hs h0 hw ih =>
      intro e
      obtain ⟨lf, h2, h3⟩ := hL k' (by omega)
      exact hb.scan k' e.symm lf h2 i d f p s (h3.iff.2 h1) hi hs h0 hw
    | @compl k' i f j d' f' p q h1 hi h2 hj hs ih ih2 =>
      intro e
      subst e
      obtain ⟨p', hp⟩ := h1.snd hl
      have hq := hp.at_
      rw [hi] at hq; cases hq
      have hm := h.cl i p.2.length f p (by rw [List.take_length]; exact ih rfl) hi
      rcases Nat.lt_or_ge f k' with hf | hf
      · obtain ⟨lf, h3, h4⟩ := hL f hf
        exact hm.compl rfl hf lf h3 j d' f' q (h4.iff.2 h2) hj hs
      · have e2 : f = k' := by have := hp.fk; omega
        subst e2
        have hd := hp.der
        rw [List.take_length] at hd
        have hnull := hd.null (by simp)
        have hg : Gen false ps p.1 := .mk p (List.mem_of_getElem? hi) (fun s hs hn => by have := (hnull s hs).1; omega) fun s hs _ => (hnull s hs).2
        exact ((h.cl j d' f' q (by rw [List.take_length]; exact ih2 rfl) hj).pred p.1 hs (hl _ (List.mem_of_getElem? hi))).2 hg
  intro x
  constructor
  · exact h.snd x
  · rintro ⟨i, d, f, rfl, hI⟩; exact key k i d f hI rfl
/-- A set is not great. -/
theorem items_few (hl : Lefts ps) (h1 : ps.length ≤ 256) (h2 : ∀ p ∈ ps, p.2.length ≤ 16) (h3 : word.length ≤ 64) {k : Nat} {l : List Tri} (hs : ∀ x ∈ l, ∃ i d f, x = tr i d f ∧ It ps start word k i d f) (hn : l.Nodup) : l.length ≤ 512000 := by
  have hb : ∀ x ∈ l, ∃ i d f : Nat, x = tr i d f ∧ i < 256 ∧ d ≤ 16 ∧ f ≤ 64 := by
    intro x hx
    obtain ⟨i, d, f, rfl, hI⟩ := hs x hx
    obtain ⟨p, hp⟩ := hI.snd hl
    have a1 := (List.getElem?_eq_some_iff.1 hp.at_).1
    have a2 := h2 p (List.mem_of_getElem? hp.at_)
    have := hp.dl; have := hp.fk; have := hp.kw
    exact ⟨i, d, f, rfl, by omega, by omega, by omega⟩
  have := nodup_len 512000 (l.map fun x : Tri => x.1 * 2000 + x.2.1 * 70 + x.2.2) ?_ ?_
  · simpa using this
  · rw [List.nodup_iff_pairwise_ne, List.pairwise_map]
    refine (List.nodup_iff_pairwise_ne.1 hn).imp_of_mem fun {x y} hx hy hne e => hne ?_
    obtain ⟨i, d, f, rfl, b1, b2, b3⟩ := hb x hx
    obtain ⟨i', d', f', rfl, c1, c2, c3⟩ := hb y hy
    simp only [tr] at e ⊢
    have e1 : i = i' := by omega
    subst e1
    have e2 : d = d' := by omega
    subst e2
    have e3 : f = f' := by omega
    rw [e3]
  · intro z hz
    obtain ⟨x, hx, rfl⟩ := List.mem_map.1 hz
    obtain ⟨i, d, f, rfl, b1, b2, b3⟩ := hb x hx
    simp only [tr]; omega
end
end Go.Proofs.Ytgioklmpnbnplaa
