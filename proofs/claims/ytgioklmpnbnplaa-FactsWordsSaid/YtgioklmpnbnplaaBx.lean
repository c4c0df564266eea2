/- A pair of structs put into two boxes of the call's own. Conditions: none. -/
import Derived.Test.YtgioklmpnbnplaaVj
set_option linter.unusedSimpArgs false
set_option linter.unusedVariables false
namespace Go.V
open Go.RowKit

theorem two_boxes {P : Program} {T T' : TypeId} {V : World} {z z' ds ds' : Array Value} (h1 : szT P T = some ds.size) (h2 : szT P T' = some ds'.size) (hz : z.size = ds.size) (hz' : z'.size = ds'.size) (hc : ∀ x ∈ ds, x.oneCell' = true) (hc' : ∀ x ∈ ds', x.oneCell' = true) :
    ∃ Y1 Y2, stoT P T ((V.alloc (.cells z T)).alloc (.cells z' T')) (pa (some ⟨V.heap.size, 0, none⟩) 0) (.agg ds) = some Y1 ∧ stoT P T' Y1 (pa (some ⟨V.heap.size + 1, 0, none⟩) 0) (.agg ds') = some Y2 ∧ Ext V Y2 ∧
      Y2.heap[V.heap.size]? = some (.cells ds T (0, 0)) ∧ Y2.heap[V.heap.size + 1]? = some (.cells ds' T' (0, 0)) ∧ Y2.heap.size = V.heap.size + 1 + 1 := by
  have e1 : ((V.alloc (.cells z T)).alloc (.cells z' T')).heap[V.heap.size]? = some (.cells z T (0, 0)) := by
    rw [heap_old _ (by simp)]; exact heap_new _ rfl
  have e2 : ((V.alloc (.cells z T)).alloc (.cells z' T')).heap[V.heap.size + 1]? = some (.cells z' T' (0, 0)) := by
    have := heap_new (w := V.alloc (.cells z T)) (.cells z' T') rfl
    rwa [World.size_alloc] at this
  have hs : ((V.alloc (.cells z T)).alloc (.cells z' T')).heap.size = V.heap.size + 1 + 1 := by simp
  obtain ⟨Y1, a1, a2, a3, a4⟩ := sto_agg (P := P) (T := T) (w := (V.alloc (.cells z T)).alloc (.cells z' T')) (g := V.heap.size) (ds := ds) h1 e1 hz hc
  have e3 := (a3.block (V.heap.size + 1) (by omega) (by simp)).trans e2
  obtain ⟨Y2, b1, b2, b3, b4⟩ := sto_agg (P := P) (T := T') (w := Y1) (g := V.heap.size + 1) (ds := ds') h2 e3 hz' hc'
  refine ⟨Y1, Y2, a1, b1, ?_, (b3.block V.heap.size (by omega) (by simp)).trans a2, b2, by omega⟩
  exact (((((Ext.rfl' V).al _).al _).grown' a3 fun k hk => by cases hk; exact Nat.le_refl _).grown' b3 fun k hk => by cases hk; omega)
end Go.V
