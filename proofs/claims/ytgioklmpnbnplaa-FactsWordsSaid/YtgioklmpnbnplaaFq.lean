/- The plain laws of closing a set by a work list, and of spreading. Conditions: none. -/
import Derived.Test.YtgioklmpnbnplaaFp
import Derived.Test.YtgioklmpnbnplaaVh
set_option linter.unusedSimpArgs false
set_option linter.unusedVariables false
namespace Go.Proofs.Ytgioklmpnbnplaa
open Go.V

/-- How many symbols are not in yet. -/
def miss (T : Bool) (D : Int → Bool) (r : List Int) : Nat := r.countP fun s => if 0 ≤ s then !D s else !T
theorem miss_zero {T : Bool} {D : Int → Bool} {r : List Int} : miss T D r = 0 ↔ ∀ s ∈ r, (s < 0 → T = true) ∧ (0 ≤ s → D s = true) := by
  unfold miss
  rw [List.countP_eq_zero]
  constructor
  · intro h s hs
    have := h s hs
    by_cases h0 : 0 ≤ s
    · simp [h0] at this; exact ⟨fun h => by omega, fun _ => this⟩
    · simp [h0] at this; exact ⟨fun _ => this, fun h => absurd h h0⟩
  · intro h s hs
    have := h s hs
    by_cases h0 : 0 ≤ s
    · simp [h0, this.2 h0]
    · simp [h0, this.1 (by omega)]
def addD (D : Int → Bool) (s : Int) : Int → Bool := fun x => D x || decide (x = s)
theorem miss_add {T : Bool} {D : Int → Bool} {s : Int} (h0 : 0 ≤ s) (hs : D s = false) : ∀ (r : List Int), miss T (addD D s) r + r.count s = miss T D r
  | [] => rfl
  | x :: r => by
    have ih := miss_add (T := T) h0 hs r
    unfold miss at ih ⊢
    rw [List.countP_cons, List.countP_cons, List.count_cons]
    by_cases hx : x = s
    · subst hx; simp [h0, hs, addD]; simp [addD] at ih; omega
    · have : addD D s x = D x := by simp [addD, hx]
      rw [this]
      simp only [beq_iff_eq, hx, if_false]
      omega
theorem miss_le_count {T : Bool} {D : Int → Bool} {s : Int} (h0 : 0 ≤ s) (hs : D s = false) (r : List Int) : r.count s ≤ miss T D r := by have := miss_add (T := T) h0 hs r; omega
/-- Where the symbol s stands, in the first i productions. -/
def usesUp (ps : List (Int × List Int)) (s : Int) : Nat → List Int
  | 0 => []
  | i + 1 => usesUp ps s i ++ List.replicate ((ps.getD i (0, [])).2.count s) (i : Int)
theorem usesUp_mem {ps : List (Int × List Int)} {s : Int} : ∀ {m : Nat} {i : Int}, i ∈ usesUp ps s m → 0 ≤ i ∧ i < m
  | 0, _, h => by simp [usesUp] at h
  | m + 1, i, h => by
    rcases List.mem_append.1 h with h | h
    · have := usesUp_mem h; omega
    · have := List.eq_of_mem_replicate h; omega
theorem usesUp_count {ps : List (Int × List Int)} {s : Int} (i : Nat) : ∀ (m : Nat), (usesUp ps s m).count (i : Int) = if i < m then (ps.getD i (0, [])).2.count s else 0
  | 0 => by simp [usesUp]
  | m + 1 => by
    rw [usesUp, List.count_append, usesUp_count i m, List.count_replicate]
    by_cases h1 : i < m
    · have : ¬ ((m : Int) == (i : Int)) = true := by simp; omega
      rw [if_pos h1, if_neg this, if_pos (by omega)]; rfl
    · by_cases h2 : i = m
      · subst h2; simp
      · have : ¬ ((m : Int) == (i : Int)) = true := by simp; omega
        rw [if_neg h1, if_neg this, if_neg (by omega)]
theorem nodup_len : ∀ (n : Nat) (l : List Int), l.Nodup → (∀ x ∈ l, 0 ≤ x ∧ x < n) → l.length ≤ n
  | 0, l, _, h => by
    cases l with
    | nil => simp
    | cons x l => have := h x (by simp); omega
  | n + 1, l, hn, h => by
    by_cases hm : (n : Int) ∈ l
    · have h1 := nodup_len n (l.erase n) (hn.erase _) fun x hx => by
        have h2 := h x (List.mem_of_mem_erase hx)
        have h3 : x ≠ n := (hn.mem_erase_iff.1 hx).1
        omega
      rw [List.length_erase_of_mem hm] at h1
      omega
    · have := nodup_len n l hn fun x hx => by
        have h2 := h x hx
        have h3 : x ≠ n := fun e => hm (e ▸ hx)
        omega
      omega
/-- What the work list keeps; mis: what is missing still at each production. -/
structure CloI (n : Nat) (T : Bool) (ps : List (Int × List Int)) (D : Int → Bool) (l : List Bool) (work : List Int) (mis : Nat → Nat) (m : Nat) : Prop where
  len : l.length = n
  rng : ∀ a ∈ work, 0 ≤ a ∧ a < n
  mem : ∀ i : Nat, i < n → (l[i]? = some true ↔ (i : Int) ∈ work ∨ D i = true)
  dom : ∀ a, D a = true → 0 ≤ a ∧ a < n
  nd : work.Nodup
  dis : ∀ a ∈ work, D a = false
  gen : ∀ i : Nat, i < n → l[i]? = some true → Gen T ps i
  low : ∀ i, i < m → mis i = 0 → l[((ps.getD i (0, [])).1).toNat]? = some true
theorem CloI.start (n : Nat) (T : Bool) (ps : List (Int × List Int)) (mis : Nat → Nat) : CloI n T ps (fun _ => false) (List.replicate n false) [] mis 0 :=
  ⟨by simp, by simp, fun i hi => by simp [List.getElem?_replicate, hi], by simp, by simp, by simp, fun i hi h => by simp [List.getElem?_replicate, hi] at h, fun i hi => by omega⟩
theorem CloI.mis_eq {n : Nat} {T : Bool} {ps : List (Int × List Int)} {D : Int → Bool} {l : List Bool} {work : List Int} {mis mis' : Nat → Nat} {m : Nat} (h : CloI n T ps D l work mis m) (he : ∀ i, i < m → mis' i = 0 → mis i = 0) : CloI n T ps D l work mis' m :=
  { h with low := fun i hi h0 => h.low i hi (he i hi h0) }
/-- A nonterminal comes in. -/
theorem CloI.add {n : Nat} {T : Bool} {ps : List (Int × List Int)} {D : Int → Bool} {l : List Bool} {work : List Int} {mis : Nat → Nat} {m : Nat} (h : CloI n T ps D l work mis m) {a : Nat} (ha : a < n) (hl : l[a]? = some false) (hg : Gen T ps a) :
    CloI n T ps D (l.set a true) (work ++ [(a : Int)]) mis m := by
  have hal : a < l.length := h.len ▸ ha
  have hna : ¬ ((a : Int) ∈ work ∨ D a = true) := fun hh => by have := (h.mem a ha).2 hh; rw [hl] at this; simp at this
  have get : ∀ i : Nat, (l.set a true)[i]? = if a = i then some true else l[i]? := fun i => by rw [List.getElem?_set]; split <;> simp_all
  refine ⟨by simpa using h.len, fun x hx => ?_, fun i hi => ?_, h.dom, ?_, fun x hx => ?_, fun i hi hh => ?_, fun i hi h0 => ?_⟩
  · rcases List.mem_append.1 hx with hx | hx
    · exact h.rng x hx
    · simp at hx; omega
  · rw [get]
    by_cases e : a = i
    · subst e; simp
    · have e' : ¬ (i : Int) = (a : Int) := by omega
      simp only [e, if_false, h.mem i hi, List.mem_append, List.mem_singleton, e', or_false]
  · rw [List.nodup_append]
    exact ⟨h.nd, by simp, fun x hx y hy e => by simp at hy; subst hy e; exact hna (.inl hx)⟩
  · rcases List.mem_append.1 hx with hx | hx
    · exact h.dis x hx
    · simp at hx; subst hx
      cases hd : D a with
      | false => rfl
      | true => exact absurd (.inr hd) hna
  · rw [get] at hh
    by_cases e : a = i
    · subst e; exact hg
    · rw [if_neg e] at hh; exact h.gen i hi hh
  · rw [get]
    split
    · rfl
    · exact h.low i hi h0
/-- The last of the work is taken. -/
theorem CloI.take {n : Nat} {T : Bool} {ps : List (Int × List Int)} {D : Int → Bool} {l : List Bool} {work : List Int} {s : Int} {mis : Nat → Nat} {m : Nat} (h : CloI n T ps D l (work ++ [s]) mis m) :
    (0 ≤ s ∧ s < n) ∧ D s = false ∧ CloI n T ps (addD D s) l work mis m := by
  have hs := h.rng s (by simp)
  have hd := h.dis s (by simp)
  have hnd := List.nodup_append.1 h.nd
  have hsw : s ∉ work := fun hh => hnd.2.2 s hh s (by simp) rfl
  refine ⟨hs, hd, h.len, fun a ha => h.rng a (by simp [ha]), fun i hi => ?_, fun a ha => ?_, hnd.1, fun a ha => ?_, h.gen, h.low⟩
  · rw [h.mem i hi]
    simp only [List.mem_append, List.mem_singleton, addD, Bool.or_eq_true, decide_eq_true_eq]
    constructor
    · rintro ((h | h) | h)
      · exact .inl h
      · exact .inr (.inr h)
      · exact .inr (.inl h)
    · rintro (h | h | h)
      · exact .inl (.inl h)
      · exact .inr h
      · exact .inl (.inr h)
  · simp only [addD, Bool.or_eq_true, decide_eq_true_eq] at ha
    rcases ha with ha | rfl
    · exact h.dom a ha
    · exact hs
  · have := h.dis a (by simp [ha])
    have hne : a ≠ s := fun e => hsw (e ▸ ha)
    simp [addD, this, hne]
/-- Nothing is left to do. -/
theorem CloI.done {n : Nat} {T : Bool} {ps : List (Int × List Int)} {D : Int → Bool} {l : List Bool} {mis : Nat → Nat} (h : CloI n T ps D l [] mis ps.length) (hm : ∀ i, i < ps.length → mis i = miss T D (ps.getD i (0, [])).2) (hr : InR n ps) : Tells n (Gen T ps) l := by
  refine tells_gen h.len h.gen fun p hp hall => ?_
  obtain ⟨i, hi, rfl⟩ := List.mem_iff_getElem.1 hp
  have hD : ps.getD i (0, []) = ps[i] := by simp [List.getD_eq_getElem?_getD, List.getElem?_eq_getElem hi]
  have := h.low i hi (by
    rw [hm i hi, hD, miss_zero]
    intro s hs
    refine ⟨(hall s hs).1, fun h0 => ?_⟩
    have h1 := (hall s hs).2 h0
    have h2 := (hr _ hp).2 s hs
    have h3 := (h.mem s.toNat (by omega)).1 h1
    simpa [Int.toNat_of_nonneg h0] using h3)
  rw [hD] at this; exact this
/-- A production of which nothing is missing brings its left side in. -/
theorem CloI.ready {n : Nat} {T : Bool} {ps : List (Int × List Int)} {D : Int → Bool} {l : List Bool} {work : List Int} {mis : Nat → Nat} {m : Nat} (h : CloI n T ps D l work mis m) {p : Int × List Int} (hp : p ∈ ps) (h0 : miss T D p.2 = 0) : Gen T ps p.1 := by
  have := miss_zero.1 h0
  refine .mk p hp (fun s hs => (this s hs).1) fun s hs hn => ?_
  have hd := (this s hs).2 hn
  have hr := h.dom s hd
  have hg := h.gen s.toNat (by omega) ((h.mem s.toNat (by omega)).2 (.inr (by simpa [Int.toNat_of_nonneg hn] using hd)))
  simpa [Int.toNat_of_nonneg hn] using hg
theorem CloI.few {n : Nat} {T : Bool} {ps : List (Int × List Int)} {D : Int → Bool} {l : List Bool} {work : List Int} {mis : Nat → Nat} {m : Nat} (h : CloI n T ps D l work mis m) : work.length ≤ n := nodup_len n work h.nd h.rng
theorem CloI.put {n : Nat} {T : Bool} {ps : List (Int × List Int)} {D : Int → Bool} {l : List Bool} {work : List Int} {mis mis' : Nat → Nat} {m m' : Nat} (h : CloI n T ps D l work mis m) (i' : Nat) (hne : ∀ x, x < m' → x ≠ i' → mis' x = 0 → x < m ∧ mis x = 0)
    (hi : mis' i' = 0 → l[((ps.getD i' (0, [])).1).toNat]? = some true) : CloI n T ps D l work mis' m' :=
  ⟨h.len, h.rng, h.mem, h.dom, h.nd, h.dis, h.gen, fun i hi' h0 => by
    by_cases e : i = i'
    · subst e; exact hi h0
    · have := hne i hi' e h0; exact h.low i this.1 this.2⟩
theorem CloI.more {n : Nat} {T : Bool} {ps : List (Int × List Int)} {D : Int → Bool} {l : List Bool} {work : List Int} {mis : Nat → Nat} {m : Nat} (h : CloI n T ps D l work mis m) (hm : mis m = 0 → l[((ps.getD m (0, [])).1).toNat]? = some true) : CloI n T ps D l work mis (m + 1) :=
  h.put m (fun x hx hne h0 => ⟨by omega, h0⟩) hm
def falses (l : List Bool) : Nat := l.countP fun b => !b
theorem falses_set {l : List Bool} {a : Nat} (h : l[a]? = some false) : falses (l.set a true) + 1 = falses l := countF_set l a h

/-! spreading -/
inductive Reach (S : Int → Int → Prop) (start : List Int) : Int → Prop
  | base {a : Int} (h : a ∈ start) : Reach S start a
  | step {a b : Int} (h : Reach S start a) (h2 : S a b) : Reach S start b
structure SprI (n : Nat) (S : Int → Int → Prop) (start : List Int) (l : List Bool) (work : List Int) : Prop where
  len : l.length = n
  rng : ∀ a ∈ work, 0 ≤ a ∧ a < n
  ok : ∀ i : Nat, i < n → l[i]? = some true → Reach S start i
  okw : ∀ a ∈ work, Reach S start a
  base : ∀ a ∈ start, a ∈ work ∨ l[a.toNat]? = some true
  step : ∀ (i : Nat) (b : Int), i < n → l[i]? = some true → S i b → b ∈ work ∨ l[b.toNat]? = some true
theorem SprI.start {n : Nat} {S : Int → Int → Prop} {start : List Int} (hs : ∀ a ∈ start, 0 ≤ a ∧ a < n) : SprI n S start (List.replicate n false) start :=
  ⟨by simp, hs, fun i hi h => by simp [List.getElem?_replicate, hi] at h, fun a h => .base h, fun a h => .inl h, fun i b hi h => by simp [List.getElem?_replicate, hi] at h⟩
theorem SprI.old {n : Nat} {S : Int → Int → Prop} {start : List Int} {l : List Bool} {work : List Int} {s : Int} (h : SprI n S start l (work ++ [s])) (hs : l[s.toNat]? = some true) : SprI n S start l work := by
  refine ⟨h.len, fun a ha => h.rng a (by simp [ha]), h.ok, fun a ha => h.okw a (by simp [ha]), fun a ha => ?_, fun i b hi hl hS => ?_⟩
  · rcases h.base a ha with h | h
    · rcases List.mem_append.1 h with h | h
      · exact .inl h
      · simp at h; subst h; exact .inr hs
    · exact .inr h
  · rcases h.step i b hi hl hS with h | h
    · rcases List.mem_append.1 h with h | h
      · exact .inl h
      · simp at h; subst h; exact .inr hs
    · exact .inr h
theorem SprI.new {n : Nat} {S : Int → Int → Prop} {start : List Int} {l : List Bool} {work row : List Int} {s : Int} (h : SprI n S start l (work ++ [s])) (hrow : ∀ b, b ∈ row ↔ S s b) (hrr : ∀ b ∈ row, 0 ≤ b ∧ b < n) : SprI n S start (l.set s.toNat true) (work ++ row) := by
  have hs := h.rng s (by simp)
  have hsR := h.okw s (by simp)
  have hsl : s.toNat < l.length := by rw [h.len]; omega
  have hsn : ((s.toNat : Nat) : Int) = s := by omega
  have get : ∀ i : Nat, (l.set s.toNat true)[i]? = if s.toNat = i then some true else l[i]? := fun i => by rw [List.getElem?_set]; split <;> simp_all
  have keep : ∀ (b : Int), (b ∈ work ++ [s] ∨ l[b.toNat]? = some true) → b ∈ work ++ row ∨ (l.set s.toNat true)[b.toNat]? = some true := by
    intro b hb
    rw [get]
    rcases hb with hb | hb
    · rcases List.mem_append.1 hb with hb | hb
      · exact .inl (List.mem_append_left _ hb)
      · simp at hb; subst hb; simp
    · right; split <;> simp_all
  refine ⟨by simpa using h.len, fun a ha => ?_, fun i hi hl => ?_, fun a ha => ?_, fun a ha => keep a (h.base a ha), fun i b hi hl hS => ?_⟩
  · rcases List.mem_append.1 ha with ha | ha
    · exact h.rng a (by simp [ha])
    · exact hrr a ha
  · rw [get] at hl
    by_cases e : s.toNat = i
    · subst e; rw [hsn]; exact hsR
    · rw [if_neg e] at hl; exact h.ok i hi hl
  · rcases List.mem_append.1 ha with ha | ha
    · exact h.okw a (by simp [ha])
    · exact .step hsR ((hrow a).1 ha)
  · rw [get] at hl
    by_cases e : s.toNat = i
    · subst e
      rw [hsn] at hS
      exact .inl (List.mem_append_right _ ((hrow b).2 hS))
    · rw [if_neg e] at hl; exact keep b (h.step i b hi hl hS)
theorem SprI.done {n : Nat} {S : Int → Int → Prop} {start : List Int} {l : List Bool} (h : SprI n S start l []) (hd : ∀ a b, S a b → 0 ≤ a ∧ a < n) (hs : ∀ a ∈ start, 0 ≤ a ∧ a < n) : Tells n (Reach S start) l := by
  refine ⟨h.len, fun i hi => ⟨h.ok i hi, fun hr => ?_⟩⟩
  have : ∀ a, Reach S start a → l[a.toNat]? = some true := by
    intro a ha
    induction ha with
    | base hb => simpa using h.base _ hb
    | @step a b ha hS ih =>
      have := hd a b hS
      have h3 := h.step a.toNat b (by omega) ih (by simpa [Int.toNat_of_nonneg this.1] using hS)
      simpa using h3
  simpa using this i hr
end Go.Proofs.Ytgioklmpnbnplaa
