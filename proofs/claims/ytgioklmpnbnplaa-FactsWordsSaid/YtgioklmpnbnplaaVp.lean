/- Maps: made, looked up, written, ranged over. Conditions: none. -/
import Derived.Test.YtgioklmpnbnplaaVo
import Derived.MapKept
set_option linter.unusedSimpArgs false
set_option linter.unusedVariables false
namespace Go.V
open Go.RowKit

section
variable {κ : Type} [DecidableEq κ]
/-- A map's entries: key, value, the count at which it was born. -/
abbrev Ents (κ : Type) := List (κ × Value × Nat)
def mkE (ke : κ → Value) (x : κ × Value × Nat) : MapEntry := ⟨ke x.1, x.2.1, x.2.2⟩
def getE : Ents κ → κ → Option Value
  | [], _ => none
  | x :: l, k => if x.1 = k then some x.2.1 else getE l k
/-- The key's type: how the model finds a key. -/
structure KeyT (P : Program) (kt : TypeId) (ke : κ → Value) : Prop where
  inj : ∀ a b, ke a = ke b → a = b
  find : ∀ (w : World) (k : κ) (l : Ents κ) (i : Nat), (Instr.findKey kt (ke k) (l.map (mkE ke))).run P w = .ok ((l.findIdx? (fun x => decide (x.1 = k))).bind fun i => (l[i]?).map fun x => (i, x.2.1)) w
  check : ∀ (w : World) (k : κ) (b : Bool), (Instr.checkKey b 10000 kt (ke k)).run P w = .ok () w
  bits : ∀ k, Instr.sameBits 10000 (ke k) (ke k) = true
  now : ∃ d, P.underlying kt = some d ∧ plainK d = true ∧ ∀ (k : κ) (l : Ents κ), Instr.findNow d (ke k) (l.map (mkE ke)) 0 = some ((l.findIdx? (fun x => decide (x.1 = k))).bind fun i => (l[i]?).map fun x => (i, x.2.1))
theorem findNow_of {ke : κ → Value} {d : TypeDesc} (h : ∀ a b, Instr.sameNow d (ke a) (ke b) = some (decide (b = a))) (k : κ) : ∀ (l : Ents κ) (i : Nat),
    Instr.findNow d (ke k) (l.map (mkE ke)) i = some ((l.findIdx? (fun x => decide (x.1 = k))).bind fun j => (l[j]?).map fun x => (j + i, x.2.1))
  | [], i => rfl
  | x :: l, i => by
    simp only [List.map_cons, Instr.findNow, mkE, h]
    by_cases e : x.1 = k
    · simp [e, List.findIdx?_cons]
    · have := findNow_of h k l (i + 1)
      simp only [e, decide_false, List.findIdx?_cons]
      rw [this]
      simp only [e, decide_false, Bool.false_eq_true, if_false]
      cases l.findIdx? (fun x => decide (x.1 = k)) with
      | none => rfl
      | some j => simp only [Option.bind_some, Option.map_some, List.getElem?_cons_succ]; cases l[j]? <;> simp; omega
theorem findKey_of {P : Program} {kt : TypeId} {ke : κ → Value} {d : TypeDesc} (hu : P.underlying kt = some d) (h : ∀ a b, Instr.sameNow d (ke a) (ke b) = some (decide (b = a))) (w : World) (k : κ) (l : Ents κ) :
    (Instr.findKey kt (ke k) (l.map (mkE ke))).run P w = .ok ((l.findIdx? (fun x => decide (x.1 = k))).bind fun i => (l[i]?).map fun x => (i, x.2.1)) w := by
  simp only [Instr.findKey, Sem.run_bind, run_underlying P w kt d hu, Result.andThen_ok, findNow_of h k l 0]
  simp
end
theorem key_int {P : Program} {kt : TypeId} (hu : P.underlying kt = some (.int .i64)) : KeyT P kt (fun n : Int => Value.int .i64 n) where
  inj := fun a b h => by simpa using h
  find := fun w k l _ => findKey_of hu (fun a b => by simp only [Instr.sameNow, if_true]; congr 1; rw [Bool.eq_iff_iff]; simp; exact eq_comm) w k l
  check := fun w k b => checkKey_plain hu rfl b 9999
  bits := fun k => by simp [Instr.sameBits]
  now := ⟨_, hu, rfl, fun k l => by have := findNow_of (d := .int .i64) (ke := fun n : Int => Value.int .i64 n) (fun a b => by simp only [Instr.sameNow, if_true]; congr 1; rw [Bool.eq_iff_iff]; simp; exact eq_comm) k l 0; simpa using this⟩
theorem key_string {P : Program} {kt : TypeId} (hu : P.underlying kt = some .string) : KeyT P kt (fun s : ByteArray => Value.string s) where
  inj := fun a b h => by simpa using h
  find := fun w k l _ => findKey_of hu (fun a b => by simp only [Instr.sameNow]; congr 1; rw [Bool.eq_iff_iff, Go.MapKept.bytes_beq]; simp; exact eq_comm) w k l
  check := fun w k b => checkKey_plain hu rfl b 9999
  bits := fun k => by simp only [Instr.sameBits]; exact (Go.MapKept.bytes_beq k k).2 rfl
  now := ⟨_, hu, rfl, fun k l => by have := findNow_of (d := .string) (ke := fun s : ByteArray => Value.string s) (fun a b => by simp only [Instr.sameNow]; congr 1; rw [Bool.eq_iff_iff, Go.MapKept.bytes_beq]; simp; exact eq_comm) k l 0; simpa using this⟩
section
variable {κ : Type} [DecidableEq κ]
theorem getE_find (l : Ents κ) (k : κ) : ((l.findIdx? (fun x => decide (x.1 = k))).bind fun i => (l[i]?).map fun x => (i, x.2.1)) = ((l.findIdx? (fun x => decide (x.1 = k))).bind fun i => (getE l k).map fun v => (i, v)) := by
  induction l with
  | nil => rfl
  | cons x l ih =>
    by_cases e : x.1 = k
    · simp [List.findIdx?_cons, e, getE]
    · simp only [List.findIdx?_cons, e, decide_false, Bool.false_eq_true, if_false, getE]
      cases h : l.findIdx? (fun x => decide (x.1 = k)) with
      | none => rfl
      | some j =>
        simp only [h, Option.bind_some, Option.map_some, List.getElem?_cons_succ] at ih ⊢
        cases hj : l[j]? <;> cases hg : getE l k <;> simp_all
theorem getE_none (l : Ents κ) (k : κ) : getE l k = none ↔ l.findIdx? (fun x => decide (x.1 = k)) = none := by
  induction l with
  | nil => simp [getE]
  | cons x l ih =>
    by_cases e : x.1 = k
    · simp [List.findIdx?_cons, e, getE]
    · simp [List.findIdx?_cons, e, getE, ih]
theorem getE_mem {l : Ents κ} {k : κ} {v : Value} (h : getE l k = some v) : ∃ n, (k, v, n) ∈ l := by
  induction l with
  | nil => simp [getE] at h
  | cons x l ih =>
    by_cases e : x.1 = k
    · simp only [getE, e, if_true, Option.some.injEq] at h
      subst h; subst e; exact ⟨x.2.2, by simp⟩
    · simp only [getE, e, if_false] at h
      obtain ⟨n, hn⟩ := ih h; exact ⟨n, List.mem_cons_of_mem _ hn⟩
theorem getE_of_mem {l : Ents κ} (hn : (l.map (·.1)).Nodup) {k : κ} {v : Value} {n : Nat} (h : (k, v, n) ∈ l) : getE l k = some v := by
  induction l with
  | nil => simp at h
  | cons x l ih =>
    simp only [List.map_cons, List.nodup_cons] at hn
    rcases List.mem_cons.1 h with rfl | h
    · simp [getE]
    · have : x.1 ≠ k := fun e => hn.1 (by rw [e]; exact List.mem_map.2 ⟨_, h, rfl⟩)
      simp only [getE, this, if_false]; exact ih hn.2 h
/-- Block b is a map with these entries. -/
def MapR (ke : κ → Value) (w : World) (b : Nat) (l : Ents κ) (clock : Nat) : Prop :=
  w.heap[b]? = some (.map (l.map (mkE ke)).toArray clock) ∧ (l.map (·.1)).Nodup ∧ l.Pairwise (fun x y => x.2.2 < y.2.2) ∧ ∀ x ∈ l, x.2.2 < clock
/-- Block b is a map that holds f. -/
def MapF (ke : κ → Value) (w : World) (b : Nat) (f : κ → Option Value) : Prop := ∃ l clock, MapR ke w b l clock ∧ ∀ k, getE l k = f k
theorem MapF.hp {ke : κ → Value} {w w' : World} {b : Nat} {f : κ → Option Value} (h : MapF ke w b f) (hb : w'.heap[b]? = w.heap[b]?) : MapF ke w' b f := by
  obtain ⟨l, c, ⟨h1, h2⟩, h3⟩ := h
  exact ⟨l, c, ⟨hb.trans h1, h2⟩, h3⟩
theorem MapF.lt {ke : κ → Value} {w : World} {b : Nat} {f : κ → Option Value} (h : MapF ke w b f) : b < w.heap.size := by
  obtain ⟨l, c, ⟨h1, _⟩, _⟩ := h; exact lt_heap h1
theorem MapF.ext {ke : κ → Value} {w w' : World} {b : Nat} {f : κ → Option Value} (h : MapF ke w b f) (hx : Ext w w') : MapF ke w' b f := h.hp (hx.block b h.lt)
theorem MapF.new (ke : κ → Value) (w : World) : MapF ke (w.alloc (.map #[] 0)) w.heap.size (fun _ => none) :=
  ⟨[], 0, ⟨heap_new _ rfl, by simp, by simp, by simp⟩, fun _ => rfl⟩
/-- The row of a map's type. -/
def MpT (P : Program) (T kt et : TypeId) (z : Value) : Prop := P.underlying T = some (.map kt et) ∧ (P.info? et).bind (·.zero) = some z
theorem MpT.zero {P : Program} {T kt et : TypeId} {z : Value} (h : MpT P T kt et z) (w : World) : (zeroValue et).run P w = .ok z w := by
  have := h.2
  cases hi : P.info? et with
  | none => simp [hi] at this
  | some i => simp only [hi, Option.bind_some] at this; simp [zeroValue, run_typeInfo P w _ i hi, this]
theorem lkO_map {P : Program} {T kt et : TypeId} {z : Value} (hT : MpT P T kt et z) {ke : κ → Value} (hk : KeyT P kt ke) {w : World} {b : Nat} {f : κ → Option Value} (hm : MapF ke w b f) (k : κ) (c : Bool) :
    lkO P T w (.map (some b)) (ke k) c = some (lkV c (f k) z) := by
  obtain ⟨l, cl, ⟨hb, hnd, _, _⟩, hf⟩ := hm
  obtain ⟨d, hd, hp, hn⟩ := hk.now
  simp only [lkO, hT.1, hd, hT.2, hp, if_true, hb, hn k l, Option.map_some, getE_find]
  rw [← hf k]
  cases hi : l.findIdx? (fun x => decide (x.1 = k)) with
  | none =>
    have := (getE_none l k).2 hi
    simp [this]
  | some j =>
    cases hv : getE l k with
    | none => have := (getE_none l k).1 hv; rw [hi] at this; cases this
    | some v => simp
theorem lkO_nil {P : Program} {T kt et : TypeId} {z : Value} (hT : MpT P T kt et z) {ke : κ → Value} (hk : KeyT P kt ke) (w : World) (k : Value) (c : Bool) : lkO P T w (.map none) k c = some (lkV c none z) := by
  obtain ⟨d, hd, hp, hn⟩ := hk.now
  simp only [lkO, hT.1, hd, hT.2, hp, if_true]
theorem lkO_int {P : Program} {T kt et : TypeId} {z : Value} (hT : MpT P T kt et z) (hk : KeyT P kt (fun n : Int => Value.int .i64 n)) {w : World} {b : Nat} {f : Int → Option Value} (hm : MapF (fun n : Int => Value.int .i64 n) w b f) : ∀ (k : Int) (c : Bool),
    lkO P T w (.map (some b)) (.int .i64 k) c = some (lkV c (f k) z) := fun k c => lkO_map hT hk hm k c
theorem lkO_str {P : Program} {T kt et : TypeId} {z : Value} (hT : MpT P T kt et z) (hk : KeyT P kt (fun s : ByteArray => Value.string s)) {w : World} {b : Nat} {f : ByteArray → Option Value} (hm : MapF (fun s : ByteArray => Value.string s) w b f) : ∀ (k : ByteArray) (c : Bool),
    lkO P T w (.map (some b)) (.string k) c = some (lkV c (f k) z) := fun k c => lkO_map hT hk hm k c
theorem lkV_false (o : Option Value) (z : Value) : lkV false o z = o.getD z := rfl
theorem lkV_true (o : Option Value) (z : Value) : lkV true o z = .tuple #[o.getD z, .bool o.isSome] := rfl
abbrev MapI := MapF (fun n : Int => Value.int .i64 n)
abbrev MapB := MapF (fun s : ByteArray => Value.string s)
def setE (l : Ents κ) (k : κ) (v : Value) : Ents κ := l.map fun x => if x.1 = k then (x.1, v, x.2.2) else x
theorem getE_setE (l : Ents κ) (k : κ) (v : Value) (k' : κ) (h : (getE l k).isSome = true) : getE (setE l k v) k' = if k' = k then some v else getE l k' := by
  induction l with
  | nil => simp [getE] at h
  | cons x l ih =>
    simp only [setE, List.map_cons]
    by_cases e : x.1 = k
    · simp only [e, if_true, getE]
      by_cases e' : k = k'
      · simp [e']
      · simp only [e', if_false, fun h => e' (Eq.symm h)]
        rw [if_neg (fun h => e' h.symm)]
        have : getE (List.map (fun x => if x.1 = k then (x.1, v, x.2.2) else x) l) k' = getE l k' := by
          clear ih h
          induction l with
          | nil => rfl
          | cons y l ih2 =>
            simp only [List.map_cons, getE]
            by_cases ey : y.1 = k
            · simp only [ey, if_true, e', if_false]; exact ih2
            · simp only [ey, if_false]; rw [ih2]
        exact this
    · simp only [e, if_false, getE] at h ⊢
      have ih' := ih h
      simp only [setE] at ih'
      rw [ih']
      by_cases e' : k' = k
      · subst e'; simp [e]
      · simp [e']
theorem getE_append (l : Ents κ) (k : κ) (v : Value) (n : Nat) (h : getE l k = none) (k' : κ) : getE (l ++ [(k, v, n)]) k' = if k' = k then some v else getE l k' := by
  induction l with
  | nil =>
    simp only [List.nil_append, getE]
    by_cases e : k = k'
    · simp [e]
    · rw [if_neg e, if_neg (fun h => e h.symm)]
  | cons x l ih =>
    simp only [getE] at h
    by_cases e : x.1 = k
    · simp [e] at h
    · simp only [e, if_false] at h
      simp only [List.cons_append, getE, ih h]
      by_cases e' : x.1 = k'
      · have : k' ≠ k := fun h => e (e'.trans h)
        simp [e', this]
      · simp [e']
theorem modify_setE (ke : κ → Value) (l : Ents κ) (hn : (l.map (·.1)).Nodup) (k : κ) (v : Value) (i : Nat) (hi : l.findIdx? (fun x => decide (x.1 = k)) = some i) :
    (l.map (mkE ke)).toArray.modify i (fun e => { e with key := ke k, val := v }) = ((setE l k v).map (mkE ke)).toArray := by
  have hfi := List.findIdx?_eq_some_iff_getElem.1 hi
  obtain ⟨hlt, hik, _⟩ := hfi
  have hik' : l[i].1 = k := by simpa using hik
  apply Array.ext
  · simp [setE]
  · intro j h1 h2
    simp only [Array.size_modify, List.size_toArray, List.length_map] at h1
    simp only [Array.getElem_modify, List.getElem_toArray, List.getElem_map, setE]
    by_cases e : i = j
    · subst e
      simp [hik', mkE]
    · have hne : l[j].1 ≠ k := by
        intro h
        have hnd := List.pairwise_iff_getElem.1 hn
        rcases Nat.lt_or_gt_of_ne e with hij | hij
        · exact hnd i j (by simpa using hlt) (by simpa using h1) hij (by simp [hik', h])
        · exact hnd j i (by simpa using h1) (by simpa using hlt) hij (by simp [hik', h])
      simp [e, hne]
theorem RunU_map {P : Program} {T kt et : TypeId} {z : Value} (hT : MpT P T kt et z) {ke : κ → Value} (hk : KeyT P kt ke) {w : World} {b : Nat} {f : κ → Option Value} (hm : MapF ke w b f) (k : κ) (v : Value) {K : KV}
    (h : ∀ w', MapF ke w' b (fun k' => if k' = k then some v else f k') → w.grownBy w' (some b) → w'.heap.size = w.heap.size → K.out undef w') : @RunU P T (.map (some b)) (ke k) v w K := by
  obtain ⟨l, cl, ⟨hb, hnd, hpw, hlt⟩, hf⟩ := hm
  have hbl := lt_heap hb
  have hg : (getObj b).run P w = .ok (.map (l.map (mkE ke)).toArray cl) w := by simp [getObj, Sem.run, hb]
  have hset : ∀ es c, (setObj b (.map es c)).run P w = .ok () { w with heap := w.heap.setIfInBounds b (.map es c) } := by intro es c; simp [setObj, Sem.run, hb]
  have hgr : ∀ o, w.grownBy { w with heap := w.heap.setIfInBounds b o } (some b) := fun o => ⟨rfl, rfl, rfl, by simp, fun i hi hne => by
    simp only [Array.getElem?_setIfInBounds]; rw [if_neg (fun e => hne (by rw [e]))]⟩
  have hat : ∀ o, ({ w with heap := w.heap.setIfInBounds b o } : World).heap[b]? = some o := fun o => by simp [hbl]
  cases hi : l.findIdx? (fun x => decide (x.1 = k)) with
  | none =>
    have hnone := (getE_none l k).2 hi
    refine ⟨{ w with heap := w.heap.setIfInBounds b (.map ((l.map (mkE ke)).toArray.push ⟨ke k, v, cl⟩) (cl + 1)) }, ?_, h _ ⟨l ++ [(k, v, cl)], cl + 1, ⟨?_, ?_, ?_, ?_⟩, fun k' => ?_⟩ (hgr _) (by simp)⟩
    · simp only [Instr.mapUpdate, Sem.run_bind, run_underlying P w _ _ hT.1, Result.andThen_ok, hg, hk.check, hk.find w k l 0, hi, Option.bind_none, hset]
    · rw [hat]; simp [mkE]
    · rw [List.map_append, List.nodup_append]
      refine ⟨hnd, by simp, ?_⟩
      intro a ha c hc e
      simp at hc; subst hc; subst e
      obtain ⟨x, hx, rfl⟩ := List.mem_map.1 ha
      have := getE_of_mem hnd (k := x.1) (v := x.2.1) (n := x.2.2) hx
      rw [hnone] at this; cases this
    · rw [List.pairwise_append]
      exact ⟨hpw, by simp, fun x hx y hy => by simp at hy; subst hy; exact hlt x hx⟩
    · intro x hx
      rcases List.mem_append.1 hx with hx | hx
      · have := hlt x hx; omega
      · simp at hx; subst hx; exact Nat.lt_succ_self _
    · rw [getE_append l k v cl hnone, hf]
  | some i =>
    have hsome : (getE l k).isSome = true := by
      cases hv : getE l k with
      | none => have := (getE_none l k).1 hv; rw [hi] at this; cases this
      | some v => rfl
    obtain ⟨v0, hv0⟩ := Option.isSome_iff_exists.1 hsome
    obtain ⟨hil, hik, _⟩ := List.findIdx?_eq_some_iff_getElem.1 hi
    have hik' : l[i].1 = k := by simpa using hik
    have hkey : (Instr.keyThatStays (ke k) (ke k)).run P w = .ok (ke k) w := by simp [Instr.keyThatStays, hk.bits]
    have hold : ((((l.map (mkE ke)).toArray[i]?).map (·.key)).getD (ke k)) = ke k := by simp [hil, mkE, hik']
    have hold' : (fun (x : MapEntry) => x.key) = (·.key) := rfl
    refine ⟨{ w with heap := w.heap.setIfInBounds b (.map ((setE l k v).map (mkE ke)).toArray cl) }, ?_, h _ ⟨setE l k v, cl, ⟨hat _, ?_, ?_, ?_⟩, fun k' => ?_⟩ (hgr _) (by simp)⟩
    · simp only [Instr.mapUpdate, Sem.run_bind, run_underlying P w _ _ hT.1, Result.andThen_ok, hg, hk.check, hk.find w k l 0, hi, List.getElem?_eq_getElem hil, Option.bind_some, Option.map_some]
      rw [show (Option.map (fun (x : MapEntry) => x.key) (List.map (mkE ke) l).toArray[i]?).getD (ke k) = ke k from hold]
      simp only [Sem.run_bind, hkey, Result.andThen_ok, modify_setE ke l hnd k v i hi, hset]
    · have : (setE l k v).map (·.1) = l.map (·.1) := by
        simp only [setE, List.map_map]; congr 1; funext x; simp only [Function.comp]; split <;> rfl
      rw [this]; exact hnd
    · unfold setE; rw [List.pairwise_map]
      refine hpw.imp ?_
      intro x y hxy
      by_cases e1 : x.1 = k <;> by_cases e2 : y.1 = k <;> simpa [e1, e2] using hxy
    · intro x hx
      obtain ⟨y, hy, rfl⟩ := List.mem_map.1 hx
      have := hlt y hy
      by_cases e : y.1 = k <;> simpa [e] using this
    · rw [getE_setE l k v k' hsome, hf]
end
end Go.V
