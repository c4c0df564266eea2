/- Words that symbols derive; the items of a chart, and what they tell: the plain law of earley. Conditions: none. -/
import Derived.Test.YtgioklmpnbnplaaFa3
set_option linter.unusedSimpArgs false
set_option linter.unusedVariables false
namespace Go.Proofs.Ytgioklmpnbnplaa
open Go.V

/-- Symbols derive a word of terminals. -/
inductive Dv (ps : List (Int × List Int)) : List Int → List Int → Prop
  | nil : Dv ps [] []
  | term {s : Int} {r u : List Int} (hs : s < 0) (h : Dv ps r u) : Dv ps (s :: r) ((-1 - s) :: u)
  | nt {p : Int × List Int} {r u v : List Int} (hp : p ∈ ps) (h0 : 0 ≤ p.1) (h : Dv ps p.2 u) (h2 : Dv ps r v) : Dv ps (p.1 :: r) (u ++ v)
section
variable {ps : List (Int × List Int)}
theorem Dv.app {r u r' u' : List Int} (h : Dv ps r u) (k : Dv ps r' u') : Dv ps (r ++ r') (u ++ u') := by
  induction h with
  | nil => exact k
  | term hs h ih => exact .term hs ih
  | nt hp h0 h h2 ih ih2 => rw [List.append_assoc]; exact .nt hp h0 h ih2
theorem Dv.split {w : List Int} : ∀ {r r' : List Int}, Dv ps (r ++ r') w → ∃ u u', w = u ++ u' ∧ Dv ps r u ∧ Dv ps r' u' := by
  intro r
  induction r generalizing w with
  | nil => intro r' h; exact ⟨[], w, rfl, .nil, h⟩
  | cons s r ih =>
    intro r' h
    cases h with
    | term hs h =>
      obtain ⟨u, u', rfl, h1, h2⟩ := ih h
      exact ⟨(-1 - s) :: u, u', rfl, .term hs h1, h2⟩
    | nt hp h0 h h2 =>
      obtain ⟨u, u', rfl, h3, h4⟩ := ih h2
      exact ⟨_, u', (List.append_assoc ..).symm, .nt hp h0 h h3, h4⟩
theorem Dv.one {p : Int × List Int} {u : List Int} (hp : p ∈ ps) (h0 : 0 ≤ p.1) (h : Dv ps p.2 u) : Dv ps [p.1] u := by
  have := Dv.nt hp h0 h .nil
  rwa [List.append_nil] at this
theorem Dv.inv {a : Int} {u : List Int} (h : Dv ps [a] u) (h0 : 0 ≤ a) : ∃ p ∈ ps, p.1 = a ∧ Dv ps p.2 u := by
  cases h with
  | term hs h => omega
  | nt hp h0 h h2 =>
    cases h2
    rw [List.append_nil]
    exact ⟨_, hp, rfl, h⟩
theorem Dv.gen {r u : List Int} (h : Dv ps r u) : ∀ s ∈ r, 0 ≤ s → Gen true ps s := by
  induction h with
  | nil => simp
  | term hs h ih =>
    intro x hx h0
    rcases List.mem_cons.1 hx with rfl | hx
    · omega
    · exact ih x hx h0
  | nt hp h0 h h2 ih ih2 =>
    intro x hx hx0
    rcases List.mem_cons.1 hx with rfl | hx
    · exact .mk _ hp (fun _ _ _ => rfl) ih
    · exact ih2 x hx hx0
theorem Dv.of_all {r : List Int} (h : ∀ s ∈ r, 0 ≤ s → ∃ u, Dv ps [s] u) : ∃ u, Dv ps r u := by
  induction r with
  | nil => exact ⟨[], .nil⟩
  | cons s r ih =>
    obtain ⟨u, hu⟩ := ih fun x hx => h x (List.mem_cons_of_mem _ hx)
    by_cases h0 : 0 ≤ s
    · obtain ⟨v, hv⟩ := h s (List.mem_cons_self ..) h0
      exact ⟨v ++ u, hv.app hu⟩
    · exact ⟨_, .term (by omega) hu⟩
/-- All left sides are nonterminals. -/
def Lefts (ps : List (Int × List Int)) : Prop := ∀ p ∈ ps, 0 ≤ p.1
theorem gen_dv (hl : Lefts ps) {a : Int} (h : Gen true ps a) : ∃ u, Dv ps [a] u := by
  induction h with
  | mk p hp h h2 ih =>
    obtain ⟨u, hu⟩ := Dv.of_all ih
    exact ⟨u, hu.one hp (hl p hp)⟩
theorem usable_dv (hl : Lefts ps) {r : List Int} (h : Usable ps r) : ∃ u, Dv ps r u := Dv.of_all fun s hs h0 => gen_dv hl (h s hs h0)
theorem Dv.null {r u : List Int} (h : Dv ps r u) : u = [] → ∀ s ∈ r, 0 ≤ s ∧ Gen false ps s := by
  induction h with
  | nil => simp
  | term hs h ih => intro e; cases e
  | nt hp h0 h h2 ih ih2 =>
    intro e x hx
    have e1 := List.append_eq_nil_iff.1 e
    rcases List.mem_cons.1 hx with rfl | hx
    · exact ⟨h0, .mk _ hp (fun s hs hn => by have := (ih e1.1 s hs).1; omega) fun s hs _ => (ih e1.1 s hs).2⟩
    · exact ih2 e1.2 x hx
theorem dv_of_null (hl : Lefts ps) {a : Int} (h : Gen false ps a) : Dv ps [a] [] := by
  induction h with
  | mk p hp h h2 ih =>
    have : ∀ r : List Int, (∀ s ∈ r, s ∈ p.2) → Dv ps r [] := by
      intro r
      induction r with
      | nil => intro _; exact .nil
      | cons s r ihr =>
        intro hs
        have h0 : 0 ≤ s := by
          rcases Int.lt_or_le s 0 with h1 | h1
          · exact absurd (h s (hs s (by simp)) h1) (by simp)
          · exact h1
        exact (ih s (hs s (by simp)) h0).app (ihr fun x hx => hs x (by simp [hx]))
    exact (this p.2 fun s hs => hs).one hp (hl p hp)
end

/-- The items that stand at each place of a word. -/
inductive It (ps : List (Int × List Int)) (start : Int) (word : List Int) : Nat → Nat → Nat → Nat → Prop
  | init {i : Nat} {p : Int × List Int} (hi : ps[i]? = some p) (hs : p.1 = start) (hu : Usable ps p.2) : It ps start word 0 i 0 0
  | pred {k i d f j : Nat} {p q : Int × List Int} {s : Int} (h : It ps start word k i d f) (hi : ps[i]? = some p) (hs : p.2[d]? = some s) (h0 : 0 ≤ s) (hj : ps[j]? = some q) (hq : q.1 = s) (hu : Usable ps q.2) : It ps start word k j 0 k
  | scan {k i d f : Nat} {p : Int × List Int} {s : Int} (h : It ps start word k i d f) (hi : ps[i]? = some p) (hs : p.2[d]? = some s) (h0 : s < 0) (hw : word[k]? = some (-1 - s)) : It ps start word (k + 1) i (d + 1) f
  | compl {k i f j d' f' : Nat} {p q : Int × List Int} (h : It ps start word k i p.2.length f) (hi : ps[i]? = some p) (h2 : It ps start word f j d' f') (hj : ps[j]? = some q) (hs : q.2[d']? = some p.1) : It ps start word k j (d' + 1) f'
/-- A word stands in another one from a place on. -/
def Ag (word : List Int) (k : Nat) (x : List Int) : Prop := ∀ n, n < x.length → word[k + n]? = x[n]?
section
variable {ps : List (Int × List Int)} {start : Int} {word : List Int}
theorem Ag.cons {k : Nat} {a : Int} {x : List Int} (h : Ag word k (a :: x)) : word[k]? = some a ∧ Ag word (k + 1) x :=
  ⟨by have := h 0 (by simp); simpa using this, fun n hn => by have := h (n + 1) (by simpa using hn); rw [show k + 1 + n = k + (n + 1) by omega, this]; simp⟩
theorem Ag.app {k : Nat} {x y : List Int} (h : Ag word k (x ++ y)) : Ag word k x ∧ Ag word (k + x.length) y :=
  ⟨fun n hn => by have := h n (by simp; omega); rw [this, List.getElem?_append_left hn], fun n hn => by have := h (x.length + n) (by simp; omega); rw [Nat.add_assoc, this, List.getElem?_append_right (by omega)]; congr 1; omega⟩
theorem Ag.take (word : List Int) (k : Nat) : Ag word 0 (word.take k) := fun n hn => by
  rw [Nat.zero_add, List.getElem?_take]; simp at hn; rw [if_pos (by omega)]
theorem getElem?_of_drop {r rest : List Int} {s : Int} {l : List Int} {d : Nat} (h : l.drop d = s :: r) : l[d]? = some s ∧ l.drop (d + 1) = r := by
  constructor
  · have : (l.drop d)[0]? = some s := by rw [h]; rfl
    simpa using this
  · have : (l.drop d).drop 1 = r := by rw [h]; rfl
    rw [List.drop_drop] at this; exact this
theorem It.all {r u : List Int} (hr : Dv ps r u) : ∀ {k i d f : Nat} {p : Int × List Int} {rest : List Int}, It ps start word k i d f → ps[i]? = some p → p.2.drop d = r ++ rest → Ag word k u → It ps start word (k + u.length) i (d + r.length) f := by
  induction hr with
  | nil => intro k i d f p rest h _ _ _; exact h
  | @term s r u hs h ih =>
    intro k i d f p rest hI hp hd ha
    obtain ⟨g1, g2⟩ := getElem?_of_drop (rest := []) hd
    obtain ⟨a1, a2⟩ := ha.cons
    have := ih (.scan hI hp g1 hs a1) hp g2 a2
    rw [List.length_cons, List.length_cons, show k + (u.length + 1) = k + 1 + u.length by omega, show d + (r.length + 1) = d + 1 + r.length by omega]
    exact this
  | @nt q r u v hq h0 h h2 ih ih2 =>
    intro k i d f p rest hI hp hd ha
    obtain ⟨g1, g2⟩ := getElem?_of_drop (rest := []) hd
    obtain ⟨a1, a2⟩ := ha.app
    obtain ⟨j, hj, rfl⟩ := List.mem_iff_getElem.1 hq
    have hj' : ps[j]? = some ps[j] := List.getElem?_eq_getElem hj
    have i1 := It.pred hI hp g1 h0 hj' rfl h.gen
    have i2 := ih (rest := []) i1 hj' (by simp) a1
    rw [Nat.zero_add] at i2
    have i3 := It.compl i2 hj' hI hp g1
    have i4 := ih2 i3 hp g2 a2
    rw [List.length_append, List.length_cons, show k + (u.length + v.length) = k + u.length + v.length by omega, show d + (r.length + 1) = d + 1 + r.length by omega]
    exact i4
theorem It.part {r w : List Int} (hr : Dv ps r w) : ∀ {k i d f : Nat} {p : Int × List Int} {rest x y : List Int} {t : Int}, w = x ++ t :: y → It ps start word k i d f → ps[i]? = some p → p.2.drop d = r ++ rest → Ag word k x → ∃ i' d' f' p', It ps start word (k + x.length) i' d' f' ∧ ps[i']? = some p' ∧ p'.2[d']? = some (-1 - t) ∧ 0 ≤ t := by
  induction hr with
  | nil => intro k i d f p rest x y t e; simp at e
  | @term s r u hs h ih =>
    intro k i d f p rest x y t e hI hp hd ha
    obtain ⟨g1, g2⟩ := getElem?_of_drop (rest := []) hd
    cases x with
    | nil =>
      simp at e
      refine ⟨i, d, f, p, hI, hp, ?_, by omega⟩
      rw [g1]; congr 1; omega
    | cons a x =>
      simp at e
      obtain ⟨e1, e2⟩ := e
      obtain ⟨a1, a2⟩ := ha.cons
      rw [← e1] at a1
      have := ih e2 (.scan hI hp g1 hs a1) hp g2 a2
      rw [List.length_cons, show k + (x.length + 1) = k + 1 + x.length by omega]
      exact this
  | @nt q r u v hq h0 h h2 ih ih2 =>
    intro k i d f p rest x y t e hI hp hd ha
    obtain ⟨g1, g2⟩ := getElem?_of_drop (rest := []) hd
    obtain ⟨j, hj, rfl⟩ := List.mem_iff_getElem.1 hq
    have hj' : ps[j]? = .some ps[j] := List.getElem?_eq_getElem hj
    have i1 := It.pred hI hp g1 h0 hj' rfl h.gen
    rcases List.append_eq_append_iff.1 e with ⟨x', e1, e2⟩ | ⟨c, e1, e2⟩
    · -- u is ahead of t
      subst e1
      obtain ⟨a1, a2⟩ := ha.app
      have i2 := It.all h (rest := []) i1 hj' (by simp) a1
      rw [Nat.zero_add] at i2
      have i3 := It.compl i2 hj' hI hp g1
      have := ih2 e2 i3 hp g2 a2
      rw [List.length_append, show k + (u.length + x'.length) = k + u.length + x'.length by omega]
      exact this
    · cases c with
      | nil =>
        rw [List.append_nil] at e1
        subst e1
        have i2 := It.all h (rest := []) i1 hj' (by simp) ha
        rw [Nat.zero_add] at i2
        have i3 := It.compl i2 hj' hI hp g1
        have := ih2 (x := []) (by simpa using e2.symm) i3 hp g2 (fun n hn => by simp at hn)
        simpa using this
      | cons c0 c =>
        simp at e2
        obtain ⟨e2, _⟩ := e2
        subst e2
        exact ih (rest := []) e1 i1 hj' (by simp) ha
/-- Whatever a nonterminal derives behind a place goes on to a word. -/
def Via (ps : List (Int × List Int)) (start : Int) (word : List Int) (f : Nat) (a : Int) : Prop := ∀ u, Dv ps [a] u → ∃ v, Dv ps [start] (word.take f ++ u ++ v)
theorem take_split {f k : Nat} (h : f ≤ k) : word.take k = word.take f ++ (word.take k).drop f := by
  have := List.take_append_drop f (word.take k)
  rw [List.take_take, Nat.min_eq_left h] at this
  exact this.symm
structure Sndi (ps : List (Int × List Int)) (start : Int) (word : List Int) (k i d f : Nat) (p : Int × List Int) : Prop where
  at_ : ps[i]? = some p
  kw : k ≤ word.length
  fk : f ≤ k
  us : Usable ps p.2
  dl : d ≤ p.2.length
  der : Dv ps (p.2.take d) ((word.take k).drop f)
  via : Via ps start word f p.1
theorem It.snd (hl : Lefts ps) {k i d f : Nat} (h : It ps start word k i d f) : ∃ p, Sndi ps start word k i d f p := by
  induction h with
  | init hi hs hu => exact ⟨_, hi, Nat.zero_le _, Nat.le_refl _, hu, Nat.zero_le _, by simpa using Dv.nil, fun u hu => ⟨[], by subst hs; simpa using hu⟩⟩
  | @pred k i d f j p q s h hi hs h0 hj hq hu ih =>
    obtain ⟨p', ih⟩ := ih
    have hp := ih.at_
    rw [hi] at hp; cases hp
    refine ⟨q, hj, ih.kw, Nat.le_refl _, hu, Nat.zero_le _, by simpa using Dv.nil, fun u hu2 => ?_⟩
    subst hq
    obtain ⟨hd, hse⟩ := List.getElem?_eq_some_iff.1 hs
    obtain ⟨u', hu'⟩ := usable_dv hl (r := p.2.drop (d + 1)) fun x hx => ih.us x (List.mem_of_mem_drop hx)
    have hall : Dv ps p.2 ((word.take k).drop f ++ (u ++ u')) := by
      have e : p.2 = p.2.take d ++ ([q.1] ++ p.2.drop (d + 1)) := by
        rw [← hse]
        simp
      rw [e]; exact ih.der.app (hu2.app hu')
    obtain ⟨v, hv⟩ := ih.via _ (hall.one (List.mem_of_getElem? hi) (hl _ (List.mem_of_getElem? hi)))
    refine ⟨u' ++ v, ?_⟩
    rw [take_split ih.fk]
    simpa [List.append_assoc] using hv
  | @scan k i d f p s h hi hs h0 hw ih =>
    obtain ⟨p', ih⟩ := ih
    have hp := ih.at_
    rw [hi] at hp; cases hp
    obtain ⟨hk, hwe⟩ := List.getElem?_eq_some_iff.1 hw
    obtain ⟨hd, hse⟩ := List.getElem?_eq_some_iff.1 hs
    refine ⟨p, hi, hk, by have := ih.fk; omega, ih.us, hd, ?_, ih.via⟩
    rw [List.take_succ_eq_append_getElem hd, List.take_succ_eq_append_getElem hk, hse, hwe, List.drop_append_of_le_length (by have := ih.fk; simp; omega)]
    exact ih.der.app (.term h0 .nil)
  | @compl k i f j d' f' p q h hi h2 hj hs ih ih2 =>
    obtain ⟨p', ih⟩ := ih
    have hp := ih.at_
    rw [hi] at hp; cases hp
    obtain ⟨q', ih2⟩ := ih2
    have hq := ih2.at_
    rw [hj] at hq; cases hq
    obtain ⟨hd, hse⟩ := List.getElem?_eq_some_iff.1 hs
    refine ⟨q, hj, ih.kw, Nat.le_trans ih2.fk ih.fk, ih2.us, hd, ?_, ih2.via⟩
    have h1 := ih.der
    rw [List.take_length] at h1
    have h3 := h1.one (List.mem_of_getElem? hi) (hl _ (List.mem_of_getElem? hi))
    have e : (word.take k).drop f' = (word.take f).drop f' ++ (word.take k).drop f := by
      conv => lhs; rw [take_split ih.fk]
      rw [List.drop_append_of_le_length (by have := ih2.fk; have := ih.fk; have := ih.kw; simp; omega)]
    rw [List.take_succ_eq_append_getElem hd, hse, e]
    exact ih2.der.app h3
/-- A place is come to where its word is the beginning of one. -/
theorem it_viable (hl : Lefts ps) (h0 : 0 ≤ start) {k : Nat} (hk : k ≤ word.length) : (∃ i d f, It ps start word k i d f) ↔ ∃ v, Dv ps [start] (word.take k ++ v) := by
  constructor
  · rintro ⟨i, d, f, h⟩
    obtain ⟨p, hp⟩ := h.snd hl
    obtain ⟨u', hu'⟩ := usable_dv hl (r := p.2.drop d) fun x hx => hp.us x (List.mem_of_mem_drop hx)
    have hall := hp.der.app hu'
    rw [List.take_append_drop] at hall
    obtain ⟨v, hv⟩ := hp.via _ (hall.one (List.mem_of_getElem? hp.at_) (hl _ (List.mem_of_getElem? hp.at_)))
    refine ⟨u' ++ v, ?_⟩
    rw [take_split hp.fk]
    simpa [List.append_assoc] using hv
  · rintro ⟨v, hv⟩
    obtain ⟨p, hp, he, hd⟩ := hv.inv h0
    obtain ⟨i, hi, rfl⟩ := List.mem_iff_getElem.1 hp
    have hi' : ps[i]? = some ps[i] := List.getElem?_eq_getElem hi
    have i0 : It ps start word 0 i 0 0 := .init hi' he hd.gen
    have ha := Ag.take word k
    have hlen : (word.take k).length = k := by simp; omega
    cases v with
    | nil =>
      rw [List.append_nil] at hd
      have := It.all hd (rest := []) i0 hi' (by simp) ha
      rw [hlen, Nat.zero_add] at this
      exact ⟨_, _, _, this⟩
    | cons t y =>
      obtain ⟨i', d', f', p', h1, _⟩ := It.part hd (rest := []) rfl i0 hi' (by simp) ha
      rw [hlen, Nat.zero_add] at h1
      exact ⟨_, _, _, h1⟩
theorem it_ends (hl : Lefts ps) (h0 : 0 ≤ start) {k : Nat} (hk : k ≤ word.length) : (∃ i p, ps[i]? = some p ∧ p.1 = start ∧ It ps start word k i p.2.length 0) ↔ Dv ps [start] (word.take k) := by
  constructor
  · rintro ⟨i, p, hi, he, h⟩
    obtain ⟨p', hp⟩ := h.snd hl
    have hq := hp.at_
    rw [hi] at hq; cases hq
    have := hp.der
    rw [List.take_length, List.drop_zero] at this
    rw [← he]
    exact this.one (List.mem_of_getElem? hi) (hl _ (List.mem_of_getElem? hi))
  · intro hv
    obtain ⟨p, hp, he, hd⟩ := hv.inv h0
    obtain ⟨i, hi, rfl⟩ := List.mem_iff_getElem.1 hp
    have hi' : ps[i]? = some ps[i] := List.getElem?_eq_getElem hi
    have i0 : It ps start word 0 i 0 0 := .init hi' he hd.gen
    have hlen : (word.take k).length = k := by simp; omega
    have := It.all hd (rest := []) i0 hi' (by simp) (Ag.take word k)
    rw [hlen, Nat.zero_add, Nat.zero_add] at this
    exact ⟨i, _, hi', he, this⟩
theorem it_next (hl : Lefts ps) (h0 : 0 ≤ start) {k : Nat} (hk : k ≤ word.length) {t : Int} (ht : 0 ≤ t) : (∃ i d f p, It ps start word k i d f ∧ ps[i]? = some p ∧ p.2[d]? = some (-1 - t)) ↔ ∃ v, Dv ps [start] (word.take k ++ t :: v) := by
  constructor
  · rintro ⟨i, d, f, p, h, hi, hs⟩
    obtain ⟨p', hp⟩ := h.snd hl
    have hq := hp.at_
    rw [hi] at hq; cases hq
    obtain ⟨hd, hse⟩ := List.getElem?_eq_some_iff.1 hs
    obtain ⟨u', hu'⟩ := usable_dv hl (r := p.2.drop (d + 1)) fun x hx => hp.us x (List.mem_of_mem_drop hx)
    have hall : Dv ps p.2 ((word.take k).drop f ++ (t :: u')) := by
      have e : p.2 = p.2.take d ++ ((-1 - t) :: p.2.drop (d + 1)) := by
        rw [← hse]; simp
      rw [e]
      have := Dv.term (ps := ps) (show -1 - t < 0 by omega) hu'
      rw [show -1 - (-1 - t) = t by omega] at this
      exact hp.der.app this
    obtain ⟨v, hv⟩ := hp.via _ (hall.one (List.mem_of_getElem? hi) (hl _ (List.mem_of_getElem? hi)))
    refine ⟨u' ++ v, ?_⟩
    rw [take_split hp.fk]
    simpa [List.append_assoc] using hv
  · rintro ⟨v, hv⟩
    obtain ⟨p, hp, he, hd⟩ := hv.inv h0
    obtain ⟨i, hi, rfl⟩ := List.mem_iff_getElem.1 hp
    have hi' : ps[i]? = some ps[i] := List.getElem?_eq_getElem hi
    have i0 : It ps start word 0 i 0 0 := .init hi' he hd.gen
    have hlen : (word.take k).length = k := by simp; omega
    obtain ⟨i', d', f', p', h1, h2, h3, _⟩ := It.part hd (rest := []) rfl i0 hi' (by simp) (Ag.take word k)
    rw [hlen, Nat.zero_add] at h1
    exact ⟨i', d', f', p', h1, h2, h3⟩
/-- A step over a nonterminal that is empty. -/
theorem It.over (hl : Lefts ps) {k i d f : Nat} {p : Int × List Int} {s : Int} (h : It ps start word k i d f) (hi : ps[i]? = some p) (hs : p.2[d]? = some s) (hn : Gen false ps s) : It ps start word k i (d + 1) f := by
  obtain ⟨hd, hse⟩ := List.getElem?_eq_some_iff.1 hs
  have := It.all (dv_of_null hl hn) (rest := p.2.drop (d + 1)) h hi (by rw [← hse]; simp) (fun n hn => by simp at hn)
  simpa using this
end
end Go.Proofs.Ytgioklmpnbnplaa
