/- Slices that a call owns: made, appended to, written. Conditions: none. -/
import Derived.Test.YtgioklmpnbnplaaVr
import Derived.WalkKit
import Derived.Maps.AppendAt
set_option linter.unusedSimpArgs false
set_option linter.unusedVariables false
namespace Go.V
open Go.RowKit

/-- The row of a slice's type: its elements' type, cells and bytes, their zero. -/
def SlT (P : Program) (t e size bytes : Nat) (z : Value) : Prop :=
  P.underlying t = some (.slice e) ∧ (P.info? e).map (fun i => (i.zero, i.size, i.bytes)) = some (some z, size, bytes) ∧ z.cells.size = size ∧ 0 < size
theorem SlT.info {P : Program} {t e size bytes : Nat} {z : Value} (h : SlT P t e size bytes z) : ∃ i, P.info? e = some i ∧ i.zero = some z ∧ i.size = size ∧ i.bytes = bytes := info_parts h.2.1
theorem grown_ext {w w' : World} (h : w.grownBy w' none) : Ext w w' := ⟨h.os, h.tape, h.output, h.size, fun k hk => h.block k hk (by simp)⟩
theorem Ext.grown' {a w w' : World} {row : Option Nat} (h : Ext a w) (hg : w.grownBy w' row) (hr : ∀ k, row = some k → a.heap.size ≤ k) : Ext a w' := Below.grown h hg h.size hr
theorem RunA_own {P : Program} {t e size bytes : Nat} {z : Value} (hs : SlT P t e size bytes z) {ty : TypeId} {w : World} {K : KV} {base n m c : Nat} {v : Value} {xs news : List Value} {A : Option Addr}
    (ho : w.ownsRow base e size v n xs) (hl : news.length = m * size) (hnews : ∀ j u, news[j]? = some u → rd w A j = some u) (h1 : ∀ u ∈ news, u.oneCell' = true)
    (h63 : n + m ≤ 9223372036854775807) (hb : (n + m) * bytes ≤ 140737488355328) (hbase : base ≤ w.heap.size)
    (hk : ∀ v' w', w'.ownsRow base e size v' (n + m) (xs ++ news) → w.grownBy w' v.ownBlock → (v'.ownBlock = v.ownBlock ∨ v'.ownBlock = some w.heap.size) → K.out v' w') :
    @RunA P #[t, t] ty #[v, .slice A m c] w K := by
  obtain ⟨i, hi, hz, hsz, hby⟩ := hs.info
  have hpos := hs.2.2.2
  cases A with
  | some a =>
    obtain ⟨v', w', hr, h2, h3, _, h5⟩ := run_append_own_at (P := P) w base t ty e i z size bytes hs.1 hi hz hsz hby hs.2.2.1 hpos v n xs ho a m c news hl
      (fun j u hj => by have := hnews j u hj; simpa [rd] using this) h1 (by unfold maxLen; omega) hb hbase
    exact ⟨v', w', hr, hk v' w' h2 h3 h5⟩
  | none =>
    have hm : m = 0 := by
      cases m with
      | zero => rfl
      | succ m =>
        cases news with
        | nil => simp [Nat.succ_mul] at hl; omega
        | cons x l => have := hnews 0 x rfl; simp [rd] at this
    subst hm
    have hn : news = [] := by simpa using hl
    subst hn
    refine ⟨v, w, ?_, hk v w (by simpa using ho) ⟨rfl, rfl, rfl, Nat.le_refl _, fun _ _ _ => rfl⟩ (.inl rfl)⟩
    rcases ho.2 with ⟨rfl, rfl⟩ | ⟨g, cap, cur, rfl, _, _, hnc, _⟩
    · simp [Builtin.append_, run_underlying P w _ _ hs.1, run_sizeOf P w _ i hi, Builtin.lenOf, Builtin.firstCells]
    · simp [Builtin.append_, run_underlying P w _ _ hs.1, run_sizeOf P w _ i hi, Builtin.lenOf, Builtin.firstCells, hnc, storeCells]
/-- append(s, x), x laid in a block of its own a moment ago. -/
theorem RunA_one {P : Program} {t e bytes : Nat} {z : Value} (hs : SlT P t e 1 bytes z) {ty : TypeId} {w : World} {K : KV} {base n : Nat} {v x : Value} {xs : List Value}
    (ho : w.ownsRow base e 1 v n xs) (h1 : x.oneCell' = true) (h63 : n + 1 ≤ 9223372036854775807) (hb : (n + 1) * bytes ≤ 140737488355328) (hbase : base ≤ w.heap.size)
    (hk : ∀ v' w', w'.ownsRow base e 1 v' (n + 1) (xs ++ [x]) → w.grownBy w' v.ownBlock → (v'.ownBlock = v.ownBlock ∨ ∃ b, v'.ownBlock = some b ∧ w.heap.size ≤ b) → K.out v' w') :
    @RunA P #[t, t] ty #[v, .slice (some ⟨w.heap.size, 0, none⟩) 1 1] (w.alloc (.cells #[x] e)) K := by
  refine RunA_own hs (ho.alloc _) (news := [x]) rfl ?_ (fun u hu => by simp at hu; subst hu; exact h1) h63 hb (by simp; omega) ?_
  · intro j u hj
    match j, hj with
    | 0, hj =>
      simp at hj; subst hj
      rw [rd_own, heap_new _ rfl]; rfl
    | j + 1, hj => simp at hj
  · intro v' w' h2 h3 h4
    refine hk v' w' h2 ((World.grownBy_alloc w _ _).trans h3) (h4.imp id fun h => ⟨_, h, by simp⟩)
/-- make, elements of one cell. -/
theorem RunM_one {P : Program} {t e bytes : Nat} {z : Value} (hs : SlT P t e 1 bytes z) (hz1 : z.oneCell' = true) {w : World} {K : KV} {n : Nat} (h63 : n ≤ 9223372036854775807) (hb : bytes * n ≤ 281474976710656)
    (hk : K.out (.slice (some ⟨w.heap.size, 0, none⟩) n n) (w.alloc (.cells (List.replicate n z).toArray e))) : @RunM P t (.int .i64 n) (.int .i64 n) w K := by
  obtain ⟨i, hi, hz, hsz, hby⟩ := hs.info
  subst hby
  refine ⟨_, _, ?_, hk⟩
  have hw : IntKind.i64.wrap (n : Int) = n := i64_wrap (by omega) (by omega)
  have hzr : (zeroValue e).run P w = .ok z w := by simp [zeroValue, run_typeInfo P w _ i hi, hz]
  have hbz : ¬ ((i.bytes : Int) * (n : Int) > 2 ^ 48) := by
    have : ((i.bytes * n : Nat) : Int) ≤ ((281474976710656 : Nat) : Int) := Int.ofNat_le.2 hb
    rw [Int.natCast_mul] at this
    omega
  have hn0 : ¬ ((n : Int) < 0) := by omega
  have h2 : (2 : Int) ^ 48 = 281474976710656 := rfl
  have hbz' : ¬ (281474976710656 < (i.bytes : Int) * (n : Int)) := by rw [← h2]; omega
  simp only [Instr.makeSlice, Sem.run_bind, run_underlying P w _ _ hs.1, Result.andThen_ok, asInt, asIntOf, Sem.run_pure, run_typeInfo P w _ i hi, hw, run_sizeOf P w _ i hi, hsz, Nat.mul_one, Int.toNat_natCast,
    h2, gt_iff_lt, hn0, hbz', decide_false, Bool.or_self, Bool.false_eq_true, Int.lt_irrefl, if_false, Bool.or_false, run_askRoom]
  by_cases h0 : n = 0
  · subst h0
    simp only [if_true, Sem.run_bind, Sem.run_pure, Result.andThen_ok]
    have hc : (Array.range 0).map (fun x => (#[] : Array Value)[x % (#[] : Array Value).size]!) = (List.replicate 0 z).toArray := by
      apply Array.ext <;> simp
    rw [hc]; rfl
  · simp only [h0, if_false, Sem.run_bind, hzr, Result.andThen_ok, Sem.run_pure, oneCell_cells hz1]
    have hc : (Array.range n).map (fun x => (#[z] : Array Value)[x % 1]!) = (List.replicate n z).toArray := by
      apply Array.ext
      · simp
      · intro k h1 h2; simp [Nat.mod_one]
    show Result.ok _ _ = _
    simp only [List.size_toArray, List.length_cons, List.length_nil, Nat.zero_add] 
    rw [hc]
    rfl
/-- What is owned reads as a list. -/
theorem own_sq {α : Type} {enc : α → Value} {w : World} {base e : Nat} {v : Value} {l : List α} (h : w.ownsRow base e 1 v l.length (l.map enc)) : Sq enc w v l := by
  rcases h.2 with ⟨rfl, hn⟩ | ⟨g, cap, cur, rfl, _, hg, hc, _, hsz, ht⟩
  · cases l with
    | nil => exact Sq.nil _ _
    | cons a l => simp at hn
  · refine ⟨some ⟨g, 0, none⟩, cap, rfl, hc, fun i hi => ?_⟩
    rw [rd_own, hg]
    show cur[0 + i]? = _
    have : (cur.toList.take (l.length * 1))[i]? = (l.map enc)[i]? := by rw [ht]
    rw [List.getElem?_take, if_pos (by omega)] at this
    simp at this
    rw [Nat.zero_add, this]; simp [hi]
end Go.V
