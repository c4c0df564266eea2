/- Literals: slices and structs that are written out. Conditions: none. -/
import Derived.Test.YtgioklmpnbnplaaVd2
set_option linter.unusedSimpArgs false
set_option linter.unusedVariables false
namespace Go.V
open Go.RowKit

theorem join {α β : Prop} (k : α → β) (h : α) : β := k h
theorem iaV_arr (P : Program) (T : TypeId) (a : Addr) (o : Nat) (k : IntKind) (j : Int) : iaV P T (pa (some a) o) (.int k j) = (arT P T).bind fun ns => if 0 ≤ j ∧ j < ns.1 then some (pa (some a) (o + j.toNat * ns.2)) else none := by
  cases h : arT P T with
  | none => simp [iaV, pa, h]
  | some ns => obtain ⟨n, s⟩ := ns; simp [iaV, pa, h, add_add]
/-- A slice's head. -/
theorem slV_hi {P : Program} {T e s b : Nat} {z : Value} (hs : SlT P T e s b z) {A : Option Addr} {len cap h : Nat} {k : IntKind} (h1 : h ≤ len) (h2 : len ≤ cap) : slV P T (.slice A len cap) none (some (.int k h)) none = some (.slice A h cap) := by
  obtain ⟨i, hi, hz, hsz, hby⟩ := hs.info
  simp only [slV, hs.1, hi, Option.map_some, bnd]
  have e1 : (0 : Int) ≤ (h : Int) ∧ (h : Int) ≤ (cap : Int) := ⟨by omega, by omega⟩
  simp only [e1, and_self, if_true, Int.toNat_natCast]
  cases A with
  | none => simp
  | some a => simp [add_zero']
theorem agg_cells (cs : Array Value) : (Value.agg cs).cells = cs := rfl
def bldP (P : Program) (T : TypeId) : Option (Array Value × Array (Nat × Nat)) :=
  match P.underlying T, zeroC P T with
  | some (.struct fields), some z => (fields.mapM (fun f => (P.info? f.type).map fun i => (f.offset, i.size))).map fun pl => (z, pl)
  | _, _ => none
theorem bld_of {P : Program} {T : TypeId} {parts : Array (Nat × Value)} {z : Array Value} {pl : Array (Nat × Nat)} {cs : Array Value} (hb : bldP P T = some (z, pl)) (hf : Instr.fill (pl[·]?) z parts.toList = some cs) : bld P T parts = some (.agg cs) := by
  unfold bldP at hb
  unfold bld
  cases hu : P.underlying T with
  | none => simp [hu] at hb
  | some d =>
    cases d <;> simp only [hu] at hb ⊢ <;> (try (cases hb; done))
    rename_i fields
    cases hz : zeroC P T with
    | none => simp [hz] at hb
    | some z' =>
      simp only [hz] at hb ⊢
      cases hp : fields.mapM (fun f => (P.info? f.type).map fun i => (f.offset, i.size)) with
      | none => simp [hp] at hb
      | some pl' =>
        simp only [hp, Option.map_some, Option.some.injEq, Prod.mk.injEq] at hb ⊢
        obtain ⟨rfl, rfl⟩ := hb
        rw [hf]; rfl
theorem bsl_any {P : Program} {t e s b : Nat} {z : Value} (hs : SlT P t e s b z) {len : Nat} {parts : Array (Nat × Value)} {cs : Array Value} (hl : len * s ≤ 2 ^ 24)
    (h : Instr.fill (fun k => some (k * s, s)) ((Array.range (len * s)).map ((if len * s = 0 then #[] else z.cells)[· % (if len * s = 0 then #[] else z.cells).size]!)) parts.toList = some cs) : bslC P t len parts = some (cs, e) := by
  obtain ⟨i, hi, hz, hsz, hby⟩ := hs.info
  subst hsz
  unfold bslC
  simp only [hs.1, hi]
  rw [if_neg (by omega)]
  by_cases h0 : len * i.size = 0
  · simp only [h0, if_true] at h ⊢
    simp only [h]; rfl
  · simp only [h0, if_false] at h ⊢
    simp only [hz, Option.map_some, h]
theorem fill_one {s : Nat → Option (Nat × Nat)} {cs : Array Value} {i off : Nat} {v : Value} {rest : List (Nat × Value)} (hp : s i = some (off, 1)) (hv : v.oneCell' = true) (ho : off < cs.size) :
    Instr.fill s cs ((i, v) :: rest) = Instr.fill s (cs.setIfInBounds off v) rest := by
  simp only [Instr.fill, hp, oneCell_cells hv, List.size_toArray, List.length_cons, List.length_nil]
  rw [if_neg (by simp; omega)]
  rfl
theorem bsl0 {P : Program} {t e s b : Nat} {z : Value} (hs : SlT P t e s b z) : bslC P t 0 #[] = some (#[], e) := bsl_any hs (by omega) (by simp [Instr.fill])
theorem bsl1 {P : Program} {t e b : Nat} {z : Value} (hs : SlT P t e 1 b z) {x : Value} (hx : x.oneCell' = true) : bslC P t 1 #[(0, x)] = some (#[x], e) :=
  bsl_any hs (by omega) (by
    show Instr.fill _ _ [(0, x)] = _
    rw [fill_one (off := 0) rfl hx (by simp)]
    simp only [Instr.fill]; congr 1; apply Array.ext
    · simp
    · intro j h1 h2; simp at h2; subst h2; simp)
theorem bsl2 {P : Program} {t e b : Nat} {z : Value} (hs : SlT P t e 1 b z) {x y : Value} (hx : x.oneCell' = true) (hy : y.oneCell' = true) : bslC P t 2 #[(0, x), (1, y)] = some (#[x, y], e) :=
  bsl_any hs (by omega) (by
    show Instr.fill _ _ [(0, x), (1, y)] = _
    rw [fill_one (off := 0) rfl hx (by simp), fill_one (off := 1) rfl hy (by simp)]
    simp only [Instr.fill]; congr 1; apply Array.ext
    · simp
    · intro j h1 h2
      simp at h2
      match j, h2 with
      | 0, _ => simp
      | 1, _ => simp)
theorem bsl3 {P : Program} {t e b : Nat} {z : Value} (hs : SlT P t e 1 b z) {x y u : Value} (hx : x.oneCell' = true) (hy : y.oneCell' = true) (hu : u.oneCell' = true) : bslC P t 3 #[(0, x), (1, y), (2, u)] = some (#[x, y, u], e) :=
  bsl_any hs (by omega) (by
    show Instr.fill _ _ [(0, x), (1, y), (2, u)] = _
    rw [fill_one (off := 0) rfl hx (by simp), fill_one (off := 1) rfl hy (by simp), fill_one (off := 2) rfl hu (by simp)]
    simp only [Instr.fill]; congr 1; apply Array.ext
    · simp
    · intro j h1 h2
      simp at h2
      match j, h2 with
      | 0, _ => simp
      | 1, _ => simp
      | 2, _ => simp)
/-- Values of one cell. -/
theorem O1 : (∀ k n, (Value.int k n).oneCell' = true) ∧ (∀ b, (Value.bool b).oneCell' = true) ∧ (∀ s, (Value.string s).oneCell' = true) ∧ (∀ a, (Value.pointer a).oneCell' = true) ∧ (∀ a n c, (Value.slice a n c).oneCell' = true) ∧ (∀ r, (Value.map r).oneCell' = true) ∧
    (∀ A k, (pa A k).oneCell' = true) ∧ (∀ a : Addr, (some a).isSome = true) :=
  ⟨fun _ _ => rfl, fun _ => rfl, fun _ => rfl, fun _ => rfl, fun _ _ _ => rfl, fun _ => rfl, fun _ _ => rfl, fun _ => rfl⟩
theorem sto2 {P : Program} {T T' : TypeId} (h : szT P T = some 2) {z : Array Value} (hz : z.size = 2) (w : World) (a b : Value) (ha : a.oneCell' = true) (hb : b.oneCell' = true) :
    stoT P T (w.alloc (.cells z T')) (pa (some ⟨w.heap.size, 0, none⟩) 0) (.agg #[a, b]) = some (w.alloc (.cells #[a, b] T')) :=
  sto_new (by simpa using h) (by simpa using hz) (by simp [ha, hb])
theorem sto3 {P : Program} {T T' : TypeId} (h : szT P T = some 3) {z : Array Value} (hz : z.size = 3) (w : World) (a b c : Value) (ha : a.oneCell' = true) (hb : b.oneCell' = true) (hc : c.oneCell' = true) :
    stoT P T (w.alloc (.cells z T')) (pa (some ⟨w.heap.size, 0, none⟩) 0) (.agg #[a, b, c]) = some (w.alloc (.cells #[a, b, c] T')) :=
  sto_new (by simpa using h) (by simpa using hz) (by simp [ha, hb, hc])
theorem sto5 {P : Program} {T T' : TypeId} (h : szT P T = some 5) {z : Array Value} (hz : z.size = 5) (w : World) (a b c d e : Value) (ha : a.oneCell' = true) (hb : b.oneCell' = true) (hc : c.oneCell' = true) (hd : d.oneCell' = true) (he : e.oneCell' = true) :
    stoT P T (w.alloc (.cells z T')) (pa (some ⟨w.heap.size, 0, none⟩) 0) (.agg #[a, b, c, d, e]) = some (w.alloc (.cells #[a, b, c, d, e] T')) :=
  sto_new (by simpa using h) (by simpa using hz) (by simp [ha, hb, hc, hd, he])
end Go.V
