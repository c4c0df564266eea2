/- Slices of fixed length that a call has made itself; copying; calls through function values. Conditions: none. -/
import Derived.Test.YtgioklmpnbnplaaVh
import Derived.Laws.CopyRow
set_option linter.unusedSimpArgs false
set_option linter.unusedVariables false
namespace Go.V
open Go.RowKit

/-- A block that holds a list. -/
def Own {α : Type} (enc : α → Value) (T : TypeId) (w : World) (g : Nat) (l : List α) : Prop := w.heap[g]? = some (.cells (l.map enc).toArray T (0, 0))
/-- The slice over a whole block. -/
def sl (g n : Nat) : Value := .slice (some ⟨g, 0, none⟩) n n
section
variable {α : Type} {enc : α → Value} {T : TypeId} {w w' : World} {g : Nat} {l : List α}
theorem Own.lt (h : Own enc T w g l) : g < w.heap.size := lt_heap h
theorem Own.hp (h : Own enc T w g l) (hb : w'.heap[g]? = w.heap[g]?) : Own enc T w' g l := hb.trans h
theorem Own.ext (h : Own enc T w g l) (hx : Ext w w') : Own enc T w' g l := hx.hp h
theorem Own.rd (h : Own enc T w g l) (i : Nat) (hi : i < l.length) : rd w (some ⟨g, 0, none⟩) i = some (enc l[i]) := by
  rw [rd_own, h]; simp [cellO, hi]
theorem Own.cell (h : Own enc T w g l) (i : Nat) (hi : i < l.length) : cellO (w.heap[g]?) i = some (enc l[i]) := by
  rw [h]; simp [cellO, hi]
theorem Own.sq (h : Own enc T w g l) : Sq enc w (sl g l.length) l := ⟨some ⟨g, 0, none⟩, l.length, rfl, Nat.le_refl _, fun i hi => h.rd i hi⟩
theorem Own.set (h : Own enc T w g l) (i : Nat) (x : α) : Own enc T (w.setCell ⟨g, i, none⟩ (enc x)) g (l.set i x) := by
  unfold Own
  rw [heap_set_same, h]
  simp only [setO]
  congr 2
  apply Array.ext
  · simp
  · intro j h1 h2
    simp [Array.getElem_setIfInBounds, List.getElem_set]
theorem Own.set0 (h : Own enc T w g l) (i : Nat) (x : α) : Own enc T (w.setCell ⟨g, 0 + i, none⟩ (enc x)) g (l.set i x) := by rw [Nat.zero_add]; exact h.set i x
theorem Own.sto {P : Program} {t : TypeId} (h : Own enc T w g l) (hs : szT P t = some 1) (i : Nat) (hi : i < l.length) (x : α) (hx : (enc x).oneCell' = true) : stoT P t w (pa (some ⟨g, 0, none⟩) i) (enc x) = some (w.setCell ⟨g, i, none⟩ (enc x)) := by
  have := sto_own (P := P) (T := t) (o := 0) (k := i) hs h (by simpa using hi) hx
  rw [Nat.zero_add] at this; exact this
theorem RunM_own {P : Program} {t e bytes : Nat} {z : α} (hs : SlT P t e 1 bytes (enc z)) (hz1 : (enc z).oneCell' = true) {w : World} {K : KV} {n : Nat} (h63 : n ≤ 9223372036854775807) (hb : bytes * n ≤ 281474976710656)
    (h : ∀ W, W.heap.size = w.heap.size + 1 → Ext w W → Own enc e W w.heap.size (List.replicate n z) → K.out (sl w.heap.size n) W) : @RunM P t (.int .i64 n) (.int .i64 n) w K := by
  refine RunM_one hs hz1 h63 hb ?_
  refine h _ (by simp) ((Ext.rfl' w).al _) ?_
  unfold Own
  rw [heap_new _ rfl]
  simp
end
theorem set_grown {w : World} {g i : Nat} {v : Value} : w.grownBy (w.setCell ⟨g, i, none⟩ v) (some g) := grown_set w g i v
/-- Copying a row of numbers into a block that the call owns. -/
def RunC (P : Program) (ts : Array TypeId) (ty : TypeId) (args : Array Value) (w : World) [K : KV] : Prop := ∃ v w', (Builtin.copy_ ts ty args).run P w = .ok v w' ∧ K.out v w'
theorem vop_copy {P : Program} {n : Nat} {t : Fr} {w : World} {K : Value → World → Prop} {d : Option Tmp} {ty : TypeId} {pos : String} {af : Array Edge} {g : Option (Nat × Bool)} (x y : Operand) (ts : Array TypeId) :
    vop P n (Oper.mk d (.call ⟨.builtin .copy, #[x, y], ts⟩) ty pos af g) t w K = @RunC P ts ty #[ev n t x, ev n t y] w ⟨K⟩ :=
  raw_of (s := Builtin.copy_ ts ty #[ev n t x, ev n t y]) (by simp [execOp, resolve, invoke, builtin])
theorem vopK_copy {P : Program} {n : Nat} {t : Fr} {w : World} {M : List Nat} {nd : Bool} {K : Value → World → Prop} {d : Option Tmp} {ty : TypeId} {pos : String} {af : Array Edge} {g : Option (Nat × Bool)} (x y : Operand) (ts : Array TypeId) :
    vopK P n (Oper.mk d (.call ⟨.builtin .copy, #[x, y], ts⟩) ty pos af g) t w M nd K = @RunC P ts ty #[ev n t x, ev n t y] w ⟨fun v w' => (nd = true → Keep M w w') ∧ K v w'⟩ := by
  rw [kst (by simp [way]), vop_copy]
theorem RunC_own {α : Type} {enc : α → Value} {P : Program} {t e bytes : Nat} {z : Value} (hs : SlT P t e 1 bytes z) {ty T : TypeId} {w : World} {K : KV} {g o n c m c2 : Nat} {A : Option Addr} {l : List α} {r : List α} (hg : Own enc T w g l) (h1 : ∀ x : α, (enc x).oneCell' = true)
    (hr : ∀ j (hj : j < r.length), rd w A j = some (enc r[j])) (hm : r.length = min m n) (hn0 : 0 < r.length) (hfit : o + r.length ≤ l.length)
    (h : ∀ W, w.grownBy W (some g) → Own enc T W g (l.take o ++ r ++ l.drop (o + r.length)) → K.out (.int .i64 r.length) W) :
    @RunC P #[t, t] ty #[.slice (some ⟨g, o, none⟩) n c, .slice A m c2] w K := by
  obtain ⟨a, rfl⟩ : ∃ a, A = some a := by
    cases A with
    | none => have := hr 0 hn0; simp [rd] at this
    | some a => exact ⟨a, rfl⟩
  obtain ⟨i, hi1, hi2, hi3, hi4⟩ := hs.info
  have hu : P.underlying t = some (.slice e) := hs.1
  have hrun := run_copy_row (P := P) w t t ty e g o n c a m c2 (l.map enc).toArray T (r.map enc) hu (by rw [hi1]; simp [hi3]) hg (by simpa using hm)
    (fun j v hj => by
      have hjl : j < r.length := by have := (List.getElem?_eq_some_iff.1 hj).1; simpa using this
      rw [List.getElem?_eq_getElem (by simpa using hjl)] at hj
      simp at hj
      have := hr j hjl
      rw [← hj]; simpa [rd] using this) (by simpa using hfit) (fun v hv => by obtain ⟨x, _, rfl⟩ := List.mem_map.1 hv; exact h1 x)
  refine ⟨_, _, hrun, ?_⟩
  have hgoal := h (w.setRow g ((l.map enc).toArray.toList.take o ++ r.map enc ++ (l.map enc).toArray.toList.drop (o + (r.map enc).length)).toArray) ?_ ?_
  · simpa [goInt] using hgoal
  · refine ⟨rfl, rfl, rfl, by simp [World.setRow], fun k hk hne => ?_⟩
    simp only [World.setRow, Array.getElem?_modify]
    rw [if_neg (by rintro rfl; exact hne rfl)]
  · unfold Own
    rw [World.setRow, Array.getElem?_modify, if_pos rfl, hg]
    simp
theorem slV_lo {P : Program} {T e s b : Nat} {z : Value} (hs : SlT P T e s b z) {g o len cap lo : Nat} {k : IntKind} (h1 : lo ≤ len) (h2 : len ≤ cap) (h3 : lo < cap) :
    slV P T (.slice (some ⟨g, o, none⟩) len cap) (some (.int k lo)) none none = some (.slice (some ⟨g, o + lo * s, none⟩) (len - lo) (cap - lo)) := by
  obtain ⟨i, hi1, hi2, hi3, hi4⟩ := hs.info
  have hu : P.underlying T = some (.slice e) := hs.1
  have hlo : (0 : Int) ≤ (lo : Int) ∧ (lo : Int) ≤ (len : Int) := by omega
  unfold slV
  rw [hu]
  simp only [hi1, Option.map_some, hi3, bnd, hlo, and_self, if_true, Int.toNat_natCast, Option.isSome_none, Bool.false_eq_true, false_and, if_false]
  rw [if_neg (by simp; omega), if_neg (by omega)]
  simp [addr_add]
theorem fill_two {s : Nat → Option (Nat × Nat)} {cs : Array Value} {i off : Nat} {a b : Value} {rest : List (Nat × Value)} (hp : s i = some (off, 2)) (ho : off + 2 ≤ cs.size) :
    Instr.fill s cs ((i, .agg #[a, b]) :: rest) = Instr.fill s ((cs.setIfInBounds off a).setIfInBounds (off + 1) b) rest := by
  have h : ¬ ((Value.agg #[a, b]).cells.size ≠ 2 ∨ off + (Value.agg #[a, b]).cells.size > cs.size) := by
    rw [agg_cells]; simp; omega
  rw [Instr.fill, hp]
  simp only [h, if_false]
  rw [agg_cells]; simp
  intro h; omega
theorem size6 {c : Array Value} (h : c.size = 6) : ∃ a b d e f g, c = #[a, b, d, e, f, g] := by
  obtain ⟨l⟩ := c
  match l, h with
  | [a, b, d, e, f, g], _ => exact ⟨a, b, d, e, f, g, rfl⟩
theorem bsl3_2 {P : Program} {t e b : Nat} {z : Value} (hs : SlT P t e 2 b z) {x y u v p q : Value} : bslC P t 3 #[(0, .agg #[x, y]), (1, .agg #[u, v]), (2, .agg #[p, q])] = some (#[x, y, u, v, p, q], e) :=
  bsl_any hs (by omega) (by
    show Instr.fill _ _ [(0, Value.agg #[x, y]), (1, Value.agg #[u, v]), (2, Value.agg #[p, q])] = _
    generalize hc : (Array.range (3 * 2)).map _ = c
    have hsz : c.size = 6 := by rw [← hc]; simp
    obtain ⟨c0, c1, c2, c3, c4, c5, rfl⟩ := size6 hsz
    rw [fill_two (off := 0) rfl (by simp), fill_two (off := 2) rfl (by simp), fill_two (off := 4) rfl (by simp)]
    rfl)
theorem andI (a : Int) (c : Nat) (hc : c < 1000000) : ∃ m : Nat, m ≤ c ∧ IntKind.i64.wrap ((BitVec.ofInt IntKind.i64.bits a &&& BitVec.ofInt IntKind.i64.bits (c : Int)).toNat : Int) = (m : Int) := by
  have h1 : (BitVec.ofInt IntKind.i64.bits a &&& BitVec.ofInt IntKind.i64.bits (c : Int)).toNat ≤ c := by
    rw [BitVec.toNat_and]
    refine Nat.le_trans Nat.and_le_right ?_
    rw [BitVec.toNat_ofInt]
    show ((c : Int) % ((2 ^ 64 : Nat) : Int)).toNat ≤ c
    omega
  exact ⟨_, h1, i64_wrap (by omega) (by omega)⟩
theorem shlI (b i : Nat) (h : i ≤ 64) : ((b : Int)) * (2 ^ min i IntKind.i64.bits) = ((b * 2 ^ i : Nat) : Int) := by
  rw [show min i IntKind.i64.bits = i from Nat.min_eq_left h]
  simp
theorem u8_wrap {x : Int} (h : 0 ≤ x) (h' : x < 256) : IntKind.u8.wrap x = x := by
  rw [IntKind.wrap_u8]; omega
theorem tmodI (a b : Nat) : ((a : Nat) : Int).tmod (b : Int) = ((a % b : Nat) : Int) := by
  rw [Int.tmod_eq_emod_of_nonneg (by omega)]; omega
theorem tdivI (a b : Nat) : ((a : Nat) : Int).tdiv (b : Int) = ((a / b : Nat) : Int) := by
  rw [Int.tdiv_eq_ediv_of_nonneg (by omega)]; omega
end Go.V
