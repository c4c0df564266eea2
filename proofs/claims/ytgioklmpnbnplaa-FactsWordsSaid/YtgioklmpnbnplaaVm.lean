/- Memory: what a cell holds behind an allocation, a store, a call; how slices read. Conditions: none. -/
import Derived.Test.YtgioklmpnbnplaaVs
set_option linter.unusedSimpArgs false
set_option linter.unusedVariables false
namespace Go.V
open Go.RowKit

def cellO (o : Option Obj) (j : Nat) : Option Value :=
  match o with
  | some (.cells cs _ _) => cs[j]?
  | _ => none
theorem addr_add (b o k : Nat) : (⟨b, o, none⟩ : Addr).add k = ⟨b, o + k, none⟩ := by
  unfold Addr.add; split
  · rename_i h; subst h; rfl
  · rfl
theorem rd_own (w : World) (b o k : Nat) : rd w (some ⟨b, o, none⟩) k = cellO (w.heap[b]?) (o + k) := by
  simp only [rd, Option.bind_some, addr_add, World.cell?, cellO]
  cases w.heap[b]? with
  | none => rfl
  | some x => cases x <;> simp
def ldA (o : Option (Option Nat)) (w : World) (A : Option Addr) (k : Nat) : Option Value :=
  match o with
  | some none => rd w A k
  | some (some n) => if n = 0 then none else (cellsL w (pa A k) 0 n).map fun l => .agg l.toArray
  | none => none
theorem ldV_pa (P : Program) (T : TypeId) (w : World) (A : Option Addr) (k : Nat) : ldV P T w (pa A k) = ldA (aggN P T) w A k := by
  unfold ldV ldA
  cases aggN P T with
  | none => rfl
  | some o => cases o with
    | none => simp only [cellP_pa, Nat.add_zero]
    | some n => rfl
theorem cellsL_bind (w : World) (A : Option Addr) (k i n : Nat) : cellsL w (pa A k) i (n + 1) = (rd w A (k + i)).bind fun x => (cellsL w (pa A k) (i + 1) n).map (x :: ·) := by
  simp only [cellsL, cellP_pa]
  cases rd w A (k + i) <;> rfl
theorem cellsL_zero (w : World) (v : Value) (i : Nat) : cellsL w v i 0 = some [] := rfl
theorem take_set_one (x : Value) : ∀ (L : List Value) (j : Nat), j < L.length → (L.set j x).take (j + 1) = L.take j ++ [x]
  | [], j, h => by simp at h
  | y :: L, 0, h => by simp
  | y :: L, j + 1, h => by simp only [List.set_cons_succ, List.take_succ_cons, List.cons_append]; rw [take_set_one x L j (by simpa using h)]
theorem ldA2 (w : World) (A : Option Addr) (k : Nat) : ldA (some (some 2)) w A k = (rd w A k).bind fun x => (rd w A (k + 1)).bind fun y => some (.agg #[x, y]) := by
  show (if 2 = 0 then none else (cellsL w (pa A k) 0 2).map fun l => Value.agg l.toArray) = _
  rw [if_neg (by decide)]
  simp only [cellsL_bind, cellsL_zero, Nat.add_zero, Nat.zero_add, Nat.reduceAdd]
  cases rd w A k with
  | none => rfl
  | some x =>
    cases rd w A (k + 1) with
    | none => rfl
    | some y =>
      rfl
theorem ldA3 (w : World) (A : Option Addr) (k : Nat) : ldA (some (some 3)) w A k = (rd w A k).bind fun x => (rd w A (k + 1)).bind fun y => (rd w A (k + 2)).bind fun z => some (.agg #[x, y, z]) := by
  show (if 3 = 0 then none else (cellsL w (pa A k) 0 3).map fun l => Value.agg l.toArray) = _
  rw [if_neg (by decide)]
  simp only [cellsL_bind, cellsL_zero, Nat.add_zero, Nat.zero_add, Nat.reduceAdd]
  cases rd w A k with
  | none => rfl
  | some x =>
    cases rd w A (k + 1) with
    | none => rfl
    | some y =>
      cases rd w A (k + 2) with
      | none => rfl
      | some z =>
        rfl
theorem ldA5 (w : World) (A : Option Addr) (k : Nat) : ldA (some (some 5)) w A k = (rd w A k).bind fun x => (rd w A (k + 1)).bind fun y => (rd w A (k + 2)).bind fun z => (rd w A (k + 3)).bind fun u => (rd w A (k + 4)).bind fun v => some (.agg #[x, y, z, u, v]) := by
  show (if 5 = 0 then none else (cellsL w (pa A k) 0 5).map fun l => Value.agg l.toArray) = _
  rw [if_neg (by decide)]
  simp only [cellsL_bind, cellsL_zero, Nat.add_zero, Nat.zero_add, Nat.reduceAdd]
  cases rd w A k with
  | none => rfl
  | some x =>
    cases rd w A (k + 1) with
    | none => rfl
    | some y =>
      cases rd w A (k + 2) with
      | none => rfl
      | some z =>
        cases rd w A (k + 3) with
        | none => rfl
        | some u =>
          cases rd w A (k + 4) with
          | none => rfl
          | some v =>
            rfl
theorem faV_pa (P : Program) (T : TypeId) (A : Option Addr) (k f : Nat) (hA : A.isSome = true) : faV P T (pa A k) f = (foff P T f).map fun off => pa A (k + off) := by
  unfold faV
  cases foff P T f with
  | none => rfl
  | some off => simp [ptrAdd_pa hA]
theorem faV_some (P : Program) (T : TypeId) (a : Addr) (k f : Nat) : faV P T (pa (some a) k) f = (foff P T f).map fun off => pa (some a) (k + off) := faV_pa P T _ k f rfl
theorem iaV_sl (P : Program) (T : TypeId) (A : Option Addr) (n c : Nat) (k : IntKind) (j : Int) (hA : A.isSome = true) (h0 : 0 ≤ j) (h1 : j < n) :
    iaV P T (.slice A n c) (.int k j) = (elT P T).map fun s => pa A (j.toNat * s) := by
  cases A with
  | none => simp at hA
  | some a =>
    unfold iaV
    cases elT P T with
    | none => rfl
    | some s => simp [h0, h1, pa]
theorem lenV_of {P : Program} {T : TypeId} {s : Nat} (h : elT P T = some s) : ∀ (w : World) (A : Option Addr) (n c : Nat), lenV P T w (.slice A n c) = some (.int .i64 n) := by
  intro w A n c
  obtain ⟨e, i, hu, _, _⟩ := elT_some h
  simp [lenV, hu]
theorem lenV_str {P : Program} {T : TypeId} (h : P.underlying T = some .string) : ∀ (w : World) (s : ByteArray), lenV P T w (.string s) = some (.int .i64 s.size) := by
  intro w s
  simp [lenV, h]
theorem heap_old {w : World} {b : Nat} (o : Obj) (h : b < w.heap.size) : (w.alloc o).heap[b]? = w.heap[b]? := Below.heap_alloc w o b h
theorem heap_new {w : World} {b : Nat} (o : Obj) (h : b = w.heap.size) : (w.alloc o).heap[b]? = some o := by subst h; exact heap_alloc_new w o
theorem heap_set {w : World} {b g i : Nat} (v : Value) (h : b ≠ g) : (w.setCell ⟨g, i, none⟩ v).heap[b]? = w.heap[b]? := Below.heap_setCell _ _ _ _ h
def setO (o : Option Obj) (i : Nat) (v : Value) : Option Obj :=
  match o with
  | some (.cells cs T f) => some (.cells (cs.setIfInBounds i v) T f)
  | o => o
theorem heap_set_same (w : World) (g i : Nat) (v : Value) : (w.setCell ⟨g, i, none⟩ v).heap[g]? = setO (w.heap[g]?) i v := by
  simp only [World.setCell, Array.getElem?_modify, if_true]
  cases w.heap[g]? with
  | none => rfl
  | some o => cases o <;> rfl
/-- Cells are written, block by block. -/
def stoS (s : Option Nat) (o : Option Obj) (g j : Nat) (x : Value) (w : World) : Option World :=
  match s, o with
  | some 1, some (.cells cs _ (0, 0)) => if j < cs.size ∧ x.oneCell' = true then some (w.setCell ⟨g, j, none⟩ x) else none
  | _, _ => none
theorem oneCell_cells {x : Value} (h : x.oneCell' = true) : x.cells = #[x] := by
  cases x <;> first | rfl | simp [Value.oneCell'] at h
theorem sto_own {P : Program} {T : TypeId} {w : World} {g o k : Nat} {x : Value} {cs : Array Value} {T' : TypeId} (hs : szT P T = some 1) (hg : w.heap[g]? = some (.cells cs T' (0, 0))) (hj : o + k < cs.size) (hx : x.oneCell' = true) :
    stoT P T w (pa (some ⟨g, o, none⟩) k) x = some (w.setCell ⟨g, o + k, none⟩ x) := by
  simp only [stoT, pa, Option.map_some, addr_add, oneCell_cells hx, hs, List.size_toArray, List.length_cons, List.length_nil, if_true]
  show (match setP w (.pointer (some ⟨g, o + k, none⟩)) 0 x with | some w' => some w' | none => none) = _
  have h1 : w.cell? ⟨g, o + k, none⟩ = some cs[o + k] := by simp [World.cell?, hg, hj]
  have h2 : w.frozen? ⟨g, o + k, none⟩ = false := by simp [World.frozen?, hg]
  simp [setP, addr_add, h1, h2, hx]
theorem sto_S {P : Program} {T : TypeId} {w : World} {g o k : Nat} {x : Value} {u : World} (h : stoS (szT P T) (w.heap[g]?) g (o + k) x w = some u) : stoT P T w (pa (some ⟨g, o, none⟩) k) x = some u := by
  unfold stoS at h
  split at h
  · rename_i hs hg
    split at h
    · rename_i hc
      simp only [Option.some.injEq] at h; subst h
      exact sto_own hs hg hc.1 hc.2
    · cases h
  · cases h
theorem Vl_sto {P : Program} {T : TypeId} {w : World} {g o k : Nat} {x : Value} {K : World → Prop} (h : Vl (stoS (szT P T) (w.heap[g]?) g (o + k) x w) K) : Vl (stoT P T w (pa (some ⟨g, o, none⟩) k) x) K := by
  obtain ⟨u, hu, hk⟩ := h
  exact ⟨u, sto_S hu, hk⟩
/-- A struct is written into a block that was laid for it a moment ago. -/
theorem sto_new {P : Program} {T T' : TypeId} {w : World} {z cs : Array Value} (h : szT P T = some cs.size) (hz : z.size = cs.size) (hc : ∀ x ∈ cs, x.oneCell' = true) :
    stoT P T (w.alloc (.cells z T')) (pa (some ⟨w.heap.size, 0, none⟩) 0) (.agg cs) = some (w.alloc (.cells cs T')) := by
  simp only [stoT, pa, Option.map_some, addr_add, Value.cells, h, if_true, Nat.add_zero]
  have key : ∀ (l : List Value) (z : Array Value) (j : Nat), (∀ x ∈ l, x.oneCell' = true) → j + l.length = z.size →
      stoL (w.alloc (.cells z T')) (.pointer (some ⟨w.heap.size, 0, none⟩)) j l = some (w.alloc (.cells (z.toList.take j ++ l).toArray T')) := by
    intro l
    induction l with
    | nil => intro z j _ hj; simp only [stoL, List.append_nil]; rw [List.take_of_length_le (by simp at hj; simp; omega)]
    | cons x l ih =>
      intro z j hx hj
      simp only [List.length_cons] at hj
      have hlt : j < z.size := by omega
      have h1 : (w.alloc (.cells z T')).cell? ⟨w.heap.size, 0 + j, none⟩ = some z[j] := by
        rw [Nat.zero_add, World.cell?_alloc_new]; simp [hlt]
      have h2 : (w.alloc (.cells z T')).frozen? ⟨w.heap.size, 0 + j, none⟩ = false := by rw [Nat.zero_add]; exact World.frozen?_alloc_new _ _ _ _
      have h3 : (w.alloc (.cells z T')).setCell ⟨w.heap.size, 0 + j, none⟩ x = w.alloc (.cells (z.setIfInBounds j x) T') := by
        rw [Nat.zero_add]; exact World.setCell_alloc_new ..
      simp only [stoL, setP, addr_add, h1, h2, hx x (List.mem_cons_self ..), Option.isSome_some, and_self, if_true, h3]
      rw [ih (z.setIfInBounds j x) (j + 1) (fun y hy => hx y (List.mem_cons_of_mem _ hy)) (by simp; omega)]
      rw [Array.toList_setIfInBounds, take_set_one x z.toList j (by simpa using hlt)]
      simp
  rw [key cs.toList z 0 (fun x hx => hc x (by simpa using hx)) (by simp [hz])]
  simp
theorem nck_pa (A : Option Addr) (k : Nat) (hA : A.isSome = true) : nckV (pa A k) = some (pa A k) := by
  cases A with
  | none => simp at hA
  | some a => rfl
end Go.V
