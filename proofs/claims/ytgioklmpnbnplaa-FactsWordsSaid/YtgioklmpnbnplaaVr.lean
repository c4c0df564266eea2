/- How slices read as lists; what stays where a world has grown. Conditions: none. -/
import Derived.Test.YtgioklmpnbnplaaVm
set_option linter.unusedSimpArgs false
set_option linter.unusedVariables false
namespace Go.V
open Go.RowKit

/-- Nothing that stood has turned. -/
abbrev Ext (w w' : World) : Prop := Below w.heap.size w w'
theorem Ext.rfl' (w : World) : Ext w w := Below.refl _ _
theorem Ext.tr {a b c : World} (h : Ext a b) (k : Ext b c) : Ext a c := h.trans (k.mono h.size)
theorem Ext.al {a b : World} (h : Ext a b) (o : Obj) : Ext a (b.alloc o) := h.alloc h.size o
theorem Ext.st {a b : World} (h : Ext a b) {g i : Nat} (hg : a.heap.size ≤ g) (v : Value) : Ext a (b.setCell ⟨g, i, none⟩ v) := Below.setCell h (p := ⟨g, i, none⟩) hg v
theorem Ext.dr {a b : World} (h : Ext a b) : Ext a b.drew := Below.drew h
theorem Ext.hp {a b : World} (h : Ext a b) {g : Nat} {o : Obj} (hg : a.heap[g]? = some o) : b.heap[g]? = some o := (h.block g (Array.getElem?_eq_some_iff.1 hg).1).trans hg
theorem Ext.rd {a b : World} (h : Ext a b) {A : Option Addr} {k : Nat} {v : Value} (hr : rd a A k = some v) : rd b A k = some v := by
  cases A with
  | none => simp [V.rd] at hr
  | some x =>
    simp only [V.rd, Option.bind_some] at hr ⊢
    rw [h.cell (lt_of_cell hr)]; exact hr
theorem lt_heap {w : World} {g : Nat} {o : Obj} (h : w.heap[g]? = some o) : g < w.heap.size := (Array.getElem?_eq_some_iff.1 h).1
theorem rd_isSome {w : World} {A : Option Addr} {k : Nat} {v : Value} (h : rd w A k = some v) : A.isSome = true := by
  cases A with
  | none => simp [rd] at h
  | some a => rfl
/-- A slice of elements of one cell reads as a list. -/
def Sq {α : Type} (enc : α → Value) (w : World) (v : Value) (l : List α) : Prop :=
  ∃ A c, v = .slice A l.length c ∧ l.length ≤ c ∧ ∀ i (h : i < l.length), rd w A i = some (enc l[i])
theorem Sq.ext {α : Type} {enc : α → Value} {w w' : World} {v : Value} {l : List α} (h : Sq enc w v l) (hx : Ext w w') : Sq enc w' v l := by
  obtain ⟨A, c, hv, hc, hr⟩ := h
  exact ⟨A, c, hv, hc, fun i hi => hx.rd (hr i hi)⟩
theorem Sq.nil {α : Type} (enc : α → Value) (w : World) : Sq enc w (.slice none 0 0) [] := ⟨none, 0, rfl, Nat.le_refl _, fun i h => by simp at h⟩
/-- Whole numbers, booleans, texts. -/
abbrev Ints (w : World) (v : Value) (l : List Int) : Prop := Sq (.int .i64) w v l
abbrev Bools (w : World) (v : Value) (l : List Bool) : Prop := Sq .bool w v l
abbrev Strs (w : World) (v : Value) (l : List ByteArray) : Prop := Sq .string w v l
/-- A slice of slices of elements of one cell. -/
def Rows {α : Type} (enc : α → Value) (w : World) (v : Value) (l : List (List α)) : Prop :=
  ∃ A c, v = .slice A l.length c ∧ l.length ≤ c ∧ ∀ i (h : i < l.length), ∃ r, rd w A i = some r ∧ Sq enc w r l[i]
theorem Rows.ext {α : Type} {enc : α → Value} {w w' : World} {v : Value} {l : List (List α)} (h : Rows enc w v l) (hx : Ext w w') : Rows enc w' v l := by
  obtain ⟨A, c, hv, hc, hr⟩ := h
  exact ⟨A, c, hv, hc, fun i hi => let ⟨r, h1, h2⟩ := hr i hi; ⟨r, hx.rd h1, h2.ext hx⟩⟩
/-- A slice of productions. -/
def Prods (w : World) (v : Value) (l : List (Int × List Int)) : Prop :=
  ∃ A c, v = .slice A l.length c ∧ l.length ≤ c ∧ ∀ i (h : i < l.length), rd w A (i * 2) = some (.int .i64 l[i].1) ∧ ∃ r, rd w A (i * 2 + 1) = some r ∧ Ints w r l[i].2
theorem Prods.ext {w w' : World} {v : Value} {l : List (Int × List Int)} (h : Prods w v l) (hx : Ext w w') : Prods w' v l := by
  obtain ⟨A, c, hv, hc, hr⟩ := h
  exact ⟨A, c, hv, hc, fun i hi => let ⟨h0, r, h1, h2⟩ := hr i hi; ⟨hx.rd h0, r, hx.rd h1, h2.ext hx⟩⟩
/-- The equations on memory that hold of every world. -/
theorem M0 : (∀ w b o k, rd w (some ⟨b, o, none⟩) k = cellO (w.heap[b]?) (o + k)) ∧ (∀ cs T f j, cellO (some (.cells cs T f)) j = cs[j]?) ∧ (∀ P T w A k, ldV P T w (pa A k) = ldA (aggN P T) w A k) ∧
    (∀ w A k, ldA (some none) w A k = rd w A k) ∧ (∀ P T a k f, faV P T (pa (some a) k) f = (foff P T f).map fun off => pa (some a) (k + off)) ∧ (∀ (w : World) o, (w.alloc o).heap.size = w.heap.size + 1) ∧
    (∀ (w : World) a v, (w.setCell a v).heap.size = w.heap.size) ∧ (∀ (w : World), w.drew.heap = w.heap) ∧ (∀ (w : World) g i v, (w.setCell ⟨g, i, none⟩ v).heap[g]? = setO (w.heap[g]?) i v) ∧
    (∀ cs T f i v, setO (some (.cells cs T f)) i v = some (.cells (cs.setIfInBounds i v) T f)) ∧ (∀ a k, nckV (pa (some a) k) = some (pa (some a) k)) :=
  ⟨rd_own, fun _ _ _ _ => rfl, ldV_pa, fun _ _ _ => rfl, faV_some, fun _ _ => World.size_alloc .., fun _ _ _ => World.size_setCell .., fun _ => rfl, heap_set_same, fun _ _ _ _ _ => rfl, fun _ _ => rfl⟩
/-- Small equations. -/
theorem E0 : (∀ {α β : Type} (f : α → β) a, Option.map f (some a) = some (f a)) ∧ (∀ {α β : Type} (f : α → Option β) a, Option.bind (some a) f = f a) ∧ (∀ n : Nat, n * 1 = n) ∧ (∀ n : Nat, n + 0 = n) ∧ (∀ n : Nat, 0 + n = n) ∧ (∀ n : Nat, 0 * n = 0) ∧
    (∀ n : Nat, ((n : Int)).toNat = n) ∧ (∀ {α : Type} (l : List α) (i : Nat), l.toArray[i]? = l[i]?) ∧ (∀ {α : Type} (a : α) (l : List α), (a :: l)[0]? = some a) ∧ (∀ {α : Type} (a : α) (l : List α) i, (a :: l)[i + 1]? = l[i]?) ∧
    (∀ cs, Value.cells (.agg cs) = cs) ∧ (∀ {α β : Type} (f : α → β) (l : List α), Array.map f l.toArray = (List.map f l).toArray) ∧ (∀ {α β : Type} (f : α → β) a (l : List α), List.map f (a :: l) = f a :: List.map f l) ∧ (∀ {α β : Type} (f : α → β), List.map f [] = []) ∧
    (∀ n : Nat, ((n : Int) + 1) = ((n + 1 : Nat) : Int)) :=
  ⟨fun _ _ => rfl, fun _ _ => rfl, Nat.mul_one, Nat.add_zero, Nat.zero_add, Nat.zero_mul, Int.toNat_natCast, fun _ _ => List.getElem?_toArray .., fun _ _ => List.getElem?_cons_zero .., fun _ _ _ => List.getElem?_cons_succ .., fun _ => rfl, fun _ _ => by simp, fun _ _ _ => rfl, fun _ => rfl, fun _ => rfl⟩
end Go.V
