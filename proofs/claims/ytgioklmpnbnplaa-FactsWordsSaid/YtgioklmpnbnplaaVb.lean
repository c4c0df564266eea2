/- The soundness of the values that operations yield which leave the world alone. Conditions: none. -/
import Derived.Test.YtgioklmpnbnplaaVa
import Derived.WalkKit
import Derived.Laws.BytesString
import Derived.Laws.AppendOwn
set_option linter.unusedSimpArgs false
set_option linter.unusedVariables false
namespace Go.V
open Go.RowKit

theorem run_underlying (P : Program) (w : World) (t : TypeId) (d : TypeDesc) (h : P.underlying t = some d) : (underlying t).run P w = .ok d w := by
  simp [underlying, h]
theorem run_typeInfo (P : Program) (w : World) (t : TypeId) (i : TypeInfo) (h : P.info? t = some i) : (typeInfo t).run P w = .ok i w := by
  simp [typeInfo, h]
theorem run_sizeOf (P : Program) (w : World) (t : TypeId) (i : TypeInfo) (h : P.info? t = some i) : (sizeOf t).run P w = .ok i.size w := by
  simp [sizeOf, run_typeInfo P w t i h]
theorem underlying_some {P : Program} {t : TypeId} {d : TypeDesc} (h : P.underlying t = some d) : ∃ i, P.info? t = some i := by
  unfold Program.underlying at h
  cases hi : P.info? t with
  | none => simp [hi] at h
  | some i => exact ⟨i, rfl⟩
theorem run_isAgg (P : Program) (w : World) (t : TypeId) (d : TypeDesc) (h : P.underlying t = some d) :
    (isAgg t).run P w = .ok (match d with | .struct _ | .array _ _ => true | _ => false) w := by
  simp only [isAgg, Sem.run_bind, run_underlying P w t d h, Result.andThen_ok]
  cases d <;> rfl
theorem aggN_some {P : Program} {T : TypeId} {o : Option Nat} (h : aggN P T = some o) (w : World) :
    (isAgg T).run P w = .ok o.isSome w ∧ ∀ n, o = some n → (sizeOf T).run P w = .ok n w := by
  unfold aggN at h
  cases hu : P.underlying T with
  | none => simp [hu] at h
  | some d =>
    obtain ⟨i, hi⟩ := underlying_some hu
    rw [run_isAgg P w T d hu]
    have hz := run_sizeOf P w T i hi
    cases d <;> simp only [hu, hi, Option.map_some, Option.some.injEq] at h <;> subst h <;> simp [hz]
theorem run_load_some {P : Program} {w : World} {a : Addr} {v : Value} (h : w.cell? a = some v) (m : Mode) : (load a m).run P w = .ok v w := by
  simp [h]
theorem run_loadCellsL {P : Program} {w : World} {a : Addr} : ∀ (n i : Nat) (acc : Array Value) (l : List Value), cellsL w (.pointer (some a)) i n = some l →
    (loadCellsFrom a i n acc).run P w = .ok (acc ++ l.toArray) w
  | 0, i, acc, l, h => by
    simp only [cellsL, Option.some.injEq] at h; subst h
    simp [loadCellsFrom]
  | n + 1, i, acc, l, h => by
    simp only [cellsL] at h
    cases hc : cellP w (.pointer (some a)) i with
    | none => simp [hc] at h
    | some x =>
      simp only [hc] at h
      cases hr : cellsL w (.pointer (some a)) (i + 1) n with
      | none => simp [hr] at h
      | some l' =>
        simp only [hr, Option.map_some, Option.some.injEq] at h
        subst h
        have hc' : w.cell? (a.add i) = some x := hc
        simp only [loadCellsFrom, Sem.run_bind, run_load_some hc', Result.andThen_ok]
        rw [run_loadCellsL n (i + 1) (acc.push x) l' hr]
        simp
theorem ldV_sound {P : Program} {T : TypeId} {w : World} {v u : Value} (h : ldV P T w v = some u) : (Instr.loadAt T v).run P w = .ok u w := by
  unfold ldV at h
  cases ho : aggN P T with
  | none => simp [ho] at h
  | some o =>
    obtain ⟨h1, h2⟩ := aggN_some ho w
    cases v with
    | pointer a =>
      cases a with
      | none => cases o with
        | none => simp [ho, cellP] at h
        | some n =>
          simp only [ho] at h
          cases n with
          | zero => simp at h
          | succ n => simp [cellsL, cellP] at h
      | some a =>
        have hs : (Instr.sureAddr (.pointer (some a))).run P w = .ok a w := rfl
        simp only [Instr.loadAt, loadVar, Sem.run_bind, hs, Result.andThen_ok, h1]
        cases o with
        | none =>
          simp only [ho] at h
          have h' : w.cell? (a.add 0) = some u := h
          rw [add_zero'] at h'
          simp [h']
        | some n =>
          simp only [ho] at h
          cases hl : cellsL w (.pointer (some a)) 0 n with
          | none => simp [hl] at h
          | some l =>
            by_cases hn : n = 0
            · simp [hn] at h
            simp only [hn, if_false, hl, Option.map_some, Option.some.injEq] at h
            subst h
            simp only [Option.isSome, if_true, Sem.run_bind, h2 n rfl, Result.andThen_ok]
            simp only [loadCells, Sem.run_pure]
            rw [run_loadCellsL n 0 #[] l hl]
            simp
    | _ => cases o with
      | none => simp [ho, cellP] at h
      | some n =>
        simp only [ho] at h
        cases n with
        | zero => simp at h
        | succ n => simp [cellsL, cellP] at h
theorem ptrAdd_some {v u : Value} {n : Nat} (h : ptrAdd v n = some u) : ∃ a, v = .pointer (some a) ∧ u = .pointer (some (a.add n)) := by
  unfold ptrAdd at h
  split at h
  · rename_i a; exact ⟨a, rfl, by simpa using h.symm⟩
  · cases h
theorem faV_sound {P : Program} {T : TypeId} {w : World} {v u : Value} {f : Nat} (h : faV P T v f = some u) : (Instr.fieldAt T v f).run P w = .ok u w := by
  unfold faV at h
  cases hf : foff P T f with
  | none => simp [hf] at h
  | some off =>
    simp only [hf, Option.bind_some] at h
    obtain ⟨a, rfl, rfl⟩ := ptrAdd_some h
    unfold foff at hf
    cases hu : P.underlying T with
    | none => simp [hu] at hf
    | some d =>
      cases d <;> simp only [hu] at hf <;> try (cases hf; done)
      rename_i fields
      cases hfd : fields[f]? with
      | none => simp [hfd] at hf
      | some fd =>
        simp only [hfd] at hf
        cases hi : P.info? fd.type with
        | none => simp [hi] at hf
        | some i =>
          simp only [hi] at hf
          by_cases hz : i.size = 0
          · simp [hz] at hf
          · simp only [hz, if_false, Option.some.injEq] at hf
            subst hf
            simp [Instr.fieldAt, run_underlying P w T _ hu, hfd, Instr.sureAddr, fieldPlace, run_sizeOf P w _ i hi, hz]
theorem elT_some {P : Program} {T : TypeId} {s : Nat} (h : elT P T = some s) : ∃ e i, P.underlying T = some (.slice e) ∧ P.info? e = some i ∧ i.size = s := by
  unfold elT at h
  split at h
  · rename_i e he
    cases hi : P.info? e with
    | none => simp [hi] at h
    | some i => exact ⟨e, i, he, hi, by simpa [hi] using h⟩
  · cases h
theorem arT_some {P : Program} {T : TypeId} {n s : Nat} (h : arT P T = some (n, s)) : ∃ e i, P.underlying T = some (.array n e) ∧ P.info? e = some i ∧ i.size = s := by
  unfold arT at h
  split at h
  · rename_i m e he
    cases hi : P.info? e with
    | none => simp [hi] at h
    | some i =>
      simp only [hi, Option.map_some, Option.some.injEq, Prod.mk.injEq] at h
      obtain ⟨rfl, rfl⟩ := h
      exact ⟨e, i, he, hi, rfl⟩
  · cases h
theorem iaV_sound {P : Program} {T : TypeId} {w : World} {x i u : Value} (h : iaV P T x i = some u) : (Instr.indexAt T x i).run P w = .ok u w := by
  unfold iaV at h
  split at h
  · rename_i a len cap k j
    cases he : elT P T with
    | none => simp [he] at h
    | some s =>
      simp only [he] at h
      by_cases hj : 0 ≤ j ∧ j < len
      · rw [if_pos hj] at h
        obtain ⟨e, i, h1, h2, h3⟩ := elT_some he
        subst h3
        simp only [Option.some.injEq] at h
        subst h
        simp [Instr.indexAt, asIntOf, run_underlying P w T _ h1, hj, run_sizeOf P w _ i h2]
      · rw [if_neg hj] at h; cases h
  · rename_i a k j
    cases he : arT P T with
    | none => simp [he] at h
    | some ns =>
      obtain ⟨n, s⟩ := ns
      simp only [he] at h
      by_cases hj : 0 ≤ j ∧ j < n
      · rw [if_pos hj] at h
        obtain ⟨e, i, h1, h2, h3⟩ := arT_some he
        subst h3
        simp only [Option.some.injEq] at h
        subst h
        simp [Instr.indexAt, asIntOf, run_underlying P w T _ h1, hj, run_sizeOf P w _ i h2, Instr.sureAddr]
      · rw [if_neg hj] at h; cases h
  · cases h
theorem lenV_sound {P : Program} {T : TypeId} {w : World} {x u : Value} {ty : TypeId} (h : lenV P T w x = some u) : (Builtin.len_ #[T] ty #[x]).run P w = .ok u w := by
  unfold lenV at h
  split at h
  · rename_i s hu; simp only [Option.some.injEq] at h; subst h; simp [Builtin.len_, run_underlying P w T _ hu, goInt]
  · rename_i hu; simp only [Option.some.injEq] at h; subst h; simp [Builtin.len_, run_underlying P w T _ hu, goInt]
  · rename_i hu; simp only [Option.some.injEq] at h; subst h; simp [Builtin.len_, run_underlying P w T _ hu, goInt]
  · rename_i r hu
    split at h
    · rename_i es c hr
      simp only [Option.some.injEq] at h; subst h
      simp [Builtin.len_, run_underlying P w T _ hu, goInt, getObj, Sem.run, hr]
    · cases h
  · cases h
theorem cvV_sound {P : Program} {S D : TypeId} {w : World} {x u : Value} (h : cvV P S D x = some u) : (convert S D x).run P w = .ok u w := by
  unfold cvV at h
  split at h
  · rename_i k0 k kk n h1 h2
    simp only [Option.some.injEq] at h; subst h
    simp [convert, run_underlying P w _ _ h1, run_underlying P w _ _ h2, Conv.intToInt]
  · cases h
theorem pickV_sound {P : Program} {w : World} {c a b u : Value} (h : pickV c a b = some u) : ((do pure (if ← asBool c then a else b)) : Sem Value).run P w = .ok u w := by
  unfold pickV at h
  split at h
  · simp only [Option.some.injEq] at h; subst h; simp [asBool]
  · cases h
theorem extV_sound {P : Program} {w : World} {x u : Value} {i : Nat} (h : extV x i = some u) : (Instr.extract x i).run P w = .ok u w := by
  unfold extV at h
  split at h
  · simp [Instr.extract, h]
  · cases h
theorem unV_sound {P : Program} {w : World} {op : UnOp} {x u : Value} (h : unV op x = some u) : (Op.unary op x).run P w = .ok u w := by
  unfold unV at h
  split at h
  · simp only [Option.some.injEq] at h; subst h; simp [Op.unary]
  · simp only [Option.some.injEq] at h; subst h; simp [Op.unary, Op.intArith]
  · cases h
theorem bnd_sound {P : Program} {w : World} {x : Value} {d y m : Nat} {code : BoundsCode} (h : bnd (some x) d y = some m) : (Instr.sliceBound x y code).run P w = .ok m w := by
  unfold bnd at h
  split at h
  · rename_i h0; cases h0
  · rename_i k i h0
    simp only [Option.some.injEq] at h0; subst h0
    by_cases hi : 0 ≤ i ∧ i ≤ y
    · rw [if_pos hi] at h; simp only [Option.some.injEq] at h; subst h
      simp [Instr.sliceBound, asIntOf, hi]
    · rw [if_neg hi] at h; cases h
  · cases h
theorem slV_sound {P : Program} {T : TypeId} {w : World} {x u : Value} {lo hi mx : Option Value} (h : slV P T x lo hi mx = some u) : (Instr.sliceAt T x lo hi mx).run P w = .ok u w := by
  unfold slV at h
  split at h
  · rename_i e a len cap hu
    cases hi0 : P.info? e with
    | none => simp [hi0] at h
    | some i =>
      simp only [hi0, Option.map_some] at h
      cases hm : bnd mx cap cap with
      | none => simp [hm] at h
      | some m =>
        simp only [hm] at h
        cases hh : bnd hi len m with
        | none => simp [hh] at h
        | some hb =>
          simp only [hh] at h
          cases hl : bnd lo 0 hb with
          | none => simp [hl] at h
          | some l =>
            simp only [hl] at h
            by_cases c1 : mx.isSome ∧ hi.isNone
            · rw [if_pos c1] at h; cases h
            rw [if_neg c1] at h
            by_cases c2 : hi.isNone ∧ m < len
            · rw [if_pos c2] at h; cases h
            rw [if_neg c2] at h
            simp only [Option.some.injEq] at h
            subst h
            have e0 : (Instr.sliceAt T (.slice a len cap) lo hi mx) = ((do
              match ← underlying T with
              | .array n elem =>
                let a ← Instr.sureAddr (.slice a len cap)
                let (l, h, m) ← Instr.sliceBounds false n n lo hi mx
                let size ← sizeOf elem
                pure (.slice (some (if m = l then a else a.add (l * size))) (h - l) (m - l))
              | _ => Instr.slice T (.slice a len cap) lo hi mx) : Sem Value) := rfl
            rw [e0]
            simp only [Sem.run_bind, run_underlying P w T _ hu, Result.andThen_ok]
            simp only [Instr.slice, Sem.run_bind, run_underlying P w T _ hu, Result.andThen_ok]
            have hb : (Instr.sliceBounds true len cap lo hi mx).run P w = .ok (l, hb, m) w := by
              cases mx with
              | none =>
                simp only [bnd, Option.some.injEq] at hm; subst hm
                cases hi with
                | none =>
                  simp only [bnd, Option.some.injEq] at hh; subst hh
                  cases lo with
                  | none => simp only [bnd, Option.some.injEq] at hl; subst hl; simp [Instr.sliceBounds]
                  | some lo => simp [Instr.sliceBounds, bnd_sound hl]
                | some hi =>
                  cases lo with
                  | none => simp only [bnd, Option.some.injEq] at hl; subst hl; simp [Instr.sliceBounds, bnd_sound hh]
                  | some lo => simp [Instr.sliceBounds, bnd_sound hl, bnd_sound hh]
              | some mx =>
                cases hi with
                | none => simp at c1
                | some hi =>
                  cases lo with
                  | none => simp only [bnd, Option.some.injEq] at hl; subst hl; simp [Instr.sliceBounds, bnd_sound hh, bnd_sound hm]
                  | some lo => simp [Instr.sliceBounds, bnd_sound hl, bnd_sound hh, bnd_sound hm]
            simp [hb, run_sizeOf P w _ i hi0]
  · rename_i s hu
    by_cases c1 : mx.isSome = true
    · rw [if_pos c1] at h; cases h
    rw [if_neg c1] at h
    have hmx : mx = none := by cases mx <;> simp_all
    subst hmx
    cases hh : bnd hi s.size s.size with
    | none => simp [hh] at h
    | some hb =>
      simp only [hh] at h
      cases hl : bnd lo 0 hb with
      | none => simp [hl] at h
      | some l =>
        simp only [hl, Option.some.injEq] at h
        subst h
        have hb : (Instr.sliceBounds false s.size s.size lo hi none).run P w = .ok (l, hb, s.size) w := by
          cases hi with
          | none =>
            simp only [bnd, Option.some.injEq] at hh; subst hh
            cases lo with
            | none => simp only [bnd, Option.some.injEq] at hl; subst hl; simp [Instr.sliceBounds]
            | some lo => simp [Instr.sliceBounds, bnd_sound hl]
          | some hi =>
            cases lo with
            | none => simp only [bnd, Option.some.injEq] at hl; subst hl; simp [Instr.sliceBounds, bnd_sound hh]
            | some lo => simp [Instr.sliceBounds, bnd_sound hl, bnd_sound hh]
        simp [Instr.sliceAt, Instr.slice, run_underlying P w T _ hu, hb]
  · cases h
theorem minV_sound {P : Program} {w : World} {l : List Value} {u : Value} {at_ : Array TypeId} {ty : TypeId} (h : minV l = some u) : (Builtin.min_ at_ ty l.toArray).run P w = .ok u w := by
  unfold minV at h
  split at h
  · rename_i k x k' y
    simp only [Option.some.injEq] at h; subst h
    simp [Builtin.min_, Builtin.min2]
  · cases h
theorem maxV_sound {P : Program} {w : World} {l : List Value} {u : Value} {at_ : Array TypeId} {ty : TypeId} (h : maxV l = some u) : (Builtin.max_ at_ ty l.toArray).run P w = .ok u w := by
  unfold maxV at h
  split at h
  · rename_i k x k' y
    simp only [Option.some.injEq] at h; subst h
    simp [Builtin.max_, Builtin.max2]
  · cases h
theorem str_eq (a b : ByteArray) : (a.toList == b.toList) = decide (a = b) := by
  rw [ByteArray.toList_eq, ByteArray.toList_eq, Bool.eq_iff_iff]
  simp only [beq_iff_eq, decide_eq_true_eq]
  constructor
  · intro h; cases a; cases b; simp_all
  · intro h; rw [h]
theorem guard_other {P : Program} {w : World} {op : BinOp} {T : TypeId} {x y : Operand} {a b : Value} (h : ∀ c d, ¬ (a = .agg c ∧ b = .agg d)) (h2 : ¬ (a = .nilIface ∧ b = .nilIface)) :
    (eqGuard op T x y a b).run P w = .ok () w := by
  unfold eqGuard
  cases op <;> simp <;> (cases a <;> cases b <;> simp_all)
theorem equalIn_sound {P : Program} {w : World} {T : TypeId} {a b : Value} {r : Bool} (hr : eqV P T a b = some r) (d : Nat) : (Op.equalIn (d + 1) T a b).run P w = .ok r w := by
  unfold eqV at hr
  split at hr <;> (try (cases hr; done)) <;> rename_i hu <;> simp only [Option.some.injEq] at hr <;> subst hr <;>
    simp only [Op.equalIn, Sem.run_bind, run_underlying P w _ _ hu, Result.andThen_ok] <;> (try rfl)
theorem eqV_sound {P : Program} {w : World} {T : TypeId} {a b : Value} {r : Bool} (hr : eqV P T a b = some r) : (Op.equal T a b).run P w = .ok r w :=
  equalIn_sound hr 9999
theorem binT_sound {P : Program} {w : World} {op : BinOp} {T : TypeId} {x y : Operand} {a b u : Value} (h : binT P op T a b = some u) :
    ((do eqGuard op T x y a b; binOp op T a b) : Sem Value).run P w = .ok u w := by
  unfold binT at h
  cases hb : binV op a b with
  | some v =>
    simp only [hb, Option.some.injEq] at h; subst h
    have hg : (eqGuard op T x y a b).run P w = .ok () w := by
      apply guard_other
      · rintro c d ⟨rfl, rfl⟩; simp [binV] at hb
      · rintro ⟨rfl, rfl⟩; simp [binV] at hb
    simp only [Sem.run_bind, hg, Result.andThen_ok]
    unfold binV at hb
    split at hb
    · rename_i k p k' q
      cases op <;> simp only [intBin] at hb <;> (try (cases hb; done)) <;> (try split at hb) <;> (try (cases hb; done)) <;> (try split at hb) <;> (try (cases hb; done)) <;>
        simp only [Option.some.injEq] at hb <;> subst hb <;> (try subst_vars) <;>
        simp_all [binOp, Op.intArith, Op.intDiv, Op.intBits, Op.intCmp, Op.shift] <;> (try omega) <;> (try rfl)
    · cases op <;> simp only at hb <;> (try (cases hb; done)) <;> (try split at hb) <;> (try (cases hb; done)) <;>
        simp only [Option.some.injEq] at hb <;> subst hb <;>
        simp_all [binOp, Op.stringOp, str_eq, IntKind.max, IntKind.signed, IntKind.bits] <;> (try omega)
    · cases hb
  | none =>
    simp only [hb] at h
    have key : ∀ r, eqV P T a b = some r → (∀ c d, ¬ (a = .agg c ∧ b = .agg d)) ∧ ¬ (a = .nilIface ∧ b = .nilIface) ∧
        (binOp .eql T a b).run P w = .ok (.bool r) w ∧ (binOp .neq T a b).run P w = .ok (.bool (!r)) w := by
      intro r hr
      have he : (Op.equal T a b).run P w = .ok r w := eqV_sound hr
      unfold eqV at hr
      split at hr <;> (try (cases hr; done)) <;> refine ⟨by simp, by simp, ?_, ?_⟩ <;> unfold binOp <;> simp only [Sem.run_bind, he, Result.andThen_ok, Sem.run_pure]
    cases op <;> simp only [Option.map_eq_some_iff] at h <;> (try (cases h; done)) <;> obtain ⟨r, hr, rfl⟩ := h <;>
      obtain ⟨h2, h3, h6, h7⟩ := key r hr <;>
      simp only [Sem.run_bind, guard_other h2 h3, Result.andThen_ok, h6, h7]
theorem checkKey_plain {P : Program} {w : World} {kt : TypeId} {v : Value} {d : TypeDesc} (hu : P.underlying kt = some d) (hd : plainK d = true) (b : Bool) (n : Nat) : (Instr.checkKey b (n + 1) kt v).run P w = .ok () w := by
  simp only [Instr.checkKey, Sem.run_bind, run_underlying P w kt _ hu, Result.andThen_ok]
  unfold plainK at hd
  cases d <;> first | rfl | cases hd
theorem findNow_nil (d : TypeDesc) (k : Value) : Instr.findNow d k [] 0 = some none := by simp [Instr.findNow]
theorem lkO_sound {P : Program} {T : TypeId} {w : World} {m k : Value} {c : Bool} {u : Value} (h : lkO P T w m k c = some u) : (Instr.lookup T m k c).run P w = .ok u w := by
  unfold lkO at h
  split at h
  · rename_i kt et hu
    split at h
    · rename_i d z hd hz
      split at h
      · rename_i hp
        have hzz : (zeroValue et).run P w = .ok z w := by
          cases hi : P.info? et with
          | none => simp [hi] at hz
          | some i => simp only [hi, Option.bind_some] at hz; simp [zeroValue, run_typeInfo P w _ i hi, hz]
        have key : ∀ (es : Array MapEntry) (r : Option (Nat × Value)), Instr.findNow d k es.toList 0 = some r → lkV c (r.map (·.2)) z = u →
            ((do let (v, ok) ← match ← Instr.findKey kt k es.toList with
                  | some (_, v) => pure (v, true)
                  | none => pure (← zeroValue et, false)
                 pure (if c then .tuple #[v, .bool ok] else v)) : Sem Value).run P w = .ok u w := by
          intro es r hr hu'
          simp only [Instr.findKey, Sem.run_bind, run_underlying P w kt _ hd, Result.andThen_ok, hr, Sem.run_pure]
          subst hu'
          cases r with
          | none => simp only [Sem.run_bind, hzz, Result.andThen_ok, Sem.run_pure]; cases c <;> rfl
          | some r => obtain ⟨i, v⟩ := r; simp only [Result.andThen_ok, Sem.run_pure]; cases c <;> rfl
        split at h
        · simp only [Option.some.injEq] at h
          have := key #[] none (findNow_nil d k) h
          simp only [Instr.lookup, Sem.run_bind, run_underlying P w _ _ hu, Result.andThen_ok, Sem.run_pure, checkKey_plain hd hp] at this ⊢
          exact this
        · rename_i b
          split at h
          · rename_i es cl hb
            cases hr : Instr.findNow d k es.toList 0 with
            | none => simp [hr] at h
            | some r =>
              simp only [hr, Option.map_some, Option.some.injEq] at h
              have hg : (getObj b).run P w = .ok (.map es cl) w := by simp [getObj, Sem.run, hb]
              have := key es r hr h
              simp only [Instr.lookup, Sem.run_bind, run_underlying P w _ _ hu, Result.andThen_ok, Sem.run_pure, checkKey_plain hd hp, hg] at this ⊢
              exact this
          · cases h
        · cases h
      · cases h
    · cases h
  · cases h
theorem idxV_sound {P : Program} {T : TypeId} {w : World} {x i u : Value} (h : idxV P T x i = some u) : (Instr.index T x i).run P w = .ok u w := by
  unfold idxV at h
  split at h
  · rename_i s k j hu
    split at h
    · rename_i h0
      cases hs : s[j.toNat]? with
      | none => simp [hs] at h
      | some b =>
        simp only [hs, Option.map_some, Option.some.injEq] at h; subst h
        simp only [Instr.index, asIntOf, Sem.run_bind, Sem.run_pure, Result.andThen_ok, run_underlying P w _ _ hu, if_pos h0, hs]
    · cases h
  · cases h
theorem run_places {P : Program} {w : World} (fields : Array Field) (pl : Array (Nat × Nat)) (h : fields.mapM (fun f => (P.info? f.type).map fun i => (f.offset, i.size)) = some pl) :
    (fields.mapM fun f => (do pure (f.offset, ← sizeOf f.type) : Sem (Nat × Nat))).run P w = .ok pl w := by
  obtain ⟨l⟩ := fields
  obtain ⟨q⟩ := pl
  rw [List.mapM_toArray] at h ⊢
  have key : ∀ (l : List Field) (q : List (Nat × Nat)), l.mapM (fun f => (P.info? f.type).map fun i => (f.offset, i.size)) = some q → (l.mapM fun f => (do pure (f.offset, ← sizeOf f.type) : Sem (Nat × Nat))).run P w = .ok q w := by
    intro l
    induction l with
    | nil => intro q h; simp at h; subst h; rfl
    | cons f l ih =>
      intro q h
      rw [List.mapM_cons] at h
      cases hi : P.info? f.type with
      | none => simp [hi] at h
      | some i =>
        cases hq : l.mapM (fun f => (P.info? f.type).map fun i => (f.offset, i.size)) with
        | none => simp [hi, hq] at h
        | some q' =>
          simp [hi, hq] at h; subst h
          simp only [List.mapM_cons, Sem.run_bind, run_sizeOf P w _ i hi, Result.andThen_ok, Sem.run_pure, ih q' hq]
  cases hq : l.mapM (fun f => (P.info? f.type).map fun i => (f.offset, i.size)) with
  | none => simp [hq] at h
  | some q' =>
    simp [hq] at h; subst h
    simp only [Sem.run_map, key l q' hq, Result.andThen_ok]
theorem bld_sound {P : Program} {T : TypeId} {parts : Array (Nat × Value)} {w : World} {v : Value} (h : bld P T parts = some v) : (Instr.build T parts).run P w = .ok v w := by
  unfold bld at h
  cases hu : P.underlying T with
  | none => simp [hu] at h
  | some d =>
    cases d <;> simp only [hu] at h <;> (try (cases h; done))
    rename_i fields
    cases hz : zeroC P T with
    | none => simp [hz] at h
    | some z =>
      simp only [hz] at h
      cases hp : fields.mapM (fun f => (P.info? f.type).map fun i => (f.offset, i.size)) with
      | none => simp [hp] at h
      | some pl =>
        simp only [hp] at h
        cases hf : Instr.fill (pl[·]?) z parts.toList with
        | none => simp [hf] at h
        | some cs =>
          simp only [hf, Option.map_some, Option.some.injEq] at h; subst h
          unfold zeroC at hz
          cases hi : P.info? T with
          | none => simp [hi] at hz
          | some i =>
            cases hzz : i.zero with
            | none => simp [hi, hzz] at hz
            | some z' =>
              simp only [hi, Option.bind_some, hzz, Option.map_some, Option.some.injEq] at hz; subst hz
              have hzr : (zeroValue T).run P w = .ok z' w := by simp [zeroValue, run_typeInfo P w _ i hi, hzz]
              simp only [Instr.build, Sem.run_bind, hzr, Result.andThen_ok, run_underlying P w _ _ hu, run_places fields pl hp, hf, Sem.run_pure]
theorem bytesL_spec {w : World} {A : Option Addr} : ∀ (n i : Nat) (l : List Int), bytesL w A i n = some l → l.length = n ∧ ∀ j (h : j < l.length), rd w A (i + j) = some (.int .u8 l[j])
  | 0, i, l, h => by simp only [bytesL, Option.some.injEq] at h; subst h; exact ⟨rfl, fun j hj => by simp at hj⟩
  | n + 1, i, l, h => by
    simp only [bytesL, Option.bind_eq_some_iff, Option.map_eq_some_iff] at h
    obtain ⟨z, hz, l', hl', rfl⟩ := h
    obtain ⟨h1, h2⟩ := bytesL_spec n (i + 1) l' hl'
    refine ⟨by simp [h1], fun j hj => ?_⟩
    cases j with
    | zero =>
      unfold byV at hz
      split at hz
      · rename_i z' hr; cases hz; simpa using hr
      · cases hz
    | succ j =>
      have := h2 j (by simpa using hj)
      rw [show i + (j + 1) = i + 1 + j by omega]
      simpa using this
theorem cvW_sound {P : Program} {S D : TypeId} {w : World} {x u : Value} (h : cvW P S D w x = some u) : (convert S D x).run P w = .ok u w := by
  unfold cvW at h
  split at h
  · rename_i v hv
    cases h; exact cvV_sound hv
  · split at h
    · rename_i e a n c hS hD _
      split at h
      · rename_i he
        simp only [Option.map_eq_some_iff] at h
        obtain ⟨l, hl, rfl⟩ := h
        obtain ⟨h1, h2⟩ := bytesL_spec n 0 l hl
        rw [run_convert_bytes_string w S D e (some a) n c hS he hD]
        have hload := run_loadCells_list (P := P) w a (l.map (Value.int .u8)) (fun j v hj => by
          have hjl : j < l.length := by have := (List.getElem?_eq_some_iff.1 hj).1; simpa using this
          rw [List.getElem?_eq_getElem (by simpa using hjl)] at hj
          simp at hj
          have := h2 j hjl
          rw [← hj]; simpa [rd] using this)
        rw [List.length_map, h1] at hload
        exact run_bytesToString w a n c l hload
      · cases h
    · cases h
theorem ro_sound {P : Program} {n : Nat} {t : Fr} {w : World} {o : Oper} {u : Value} (h : ro P n t w o.op = some u) : (execOp (ev n t) o).run P w = .ok (.value u) w := by
  obtain ⟨dst, op, type, pos, after, guard⟩ := o
  simp only at h
  cases op <;> simp only [ro] at h <;> (try (cases h; done))
  case move x => simp only [Option.some.injEq] at h; subst h; rfl
  case assign x => simp only [Option.some.injEq] at h; subst h; rfl
  case pick c a b =>
    have := pickV_sound (P := P) (w := w) h
    simp only [execOp, Sem.run_bind] at this ⊢
    cases hc : (asBool (ev n t c)).run P w with
    | ok b w' => simp only [hc, Result.andThen_ok, Sem.run_pure, Result.ok.injEq] at this ⊢; obtain ⟨h1, h2⟩ := this; subst h2; rw [h1]; exact ⟨rfl, rfl⟩
    | halt x w' => simp [hc] at this
  case load T a => simp [execOp, ldV_sound h]
  case nilCheck x =>
    unfold nckV at h
    split at h
    · rename_i a ha
      simp only [Option.some.injEq] at h; subst h
      simp [execOp, ha]
    · cases h
  case binOp op T x y yT =>
    have := binT_sound (P := P) (w := w) (x := x) (y := y) h
    show ((do let v ← (do eqGuard op T x y (ev n t x) (ev n t y); binOp op T (ev n t x) (ev n t y)); pure (Next.value v)) : Sem Next).run P w = _
    rw [Sem.run_bind, this]; rfl
  case unOp op T x => simp [execOp, unV_sound h]
  case convert S D x => simp [execOp, cvW_sound h]
  case lookup T m k c => simp [execOp, lkO_sound h]
  case index T x i => simp [execOp, idxV_sound h]
  case build T parts =>
    show ((do let v ← Instr.build T (parts.map fun x : Nat × Operand => (x.1, ev n t x.2)); pure (Next.value v)) : Sem Next).run P w = _
    rw [Sem.run_bind, bld_sound h]; rfl
  case makeFunc fn a b => simp only [Option.some.injEq] at h; subst h; simp [execOp, Instr.makeFunc]
  case slice T x lo hi mx => simp [execOp, slV_sound h]
  case fieldAddr T a f => simp [execOp, faV_sound h]
  case indexAddr T x i => simp [execOp, iaV_sound h]
  case extract x i => simp [execOp, extV_sound h]
  case call c =>
    obtain ⟨callee, args, argTypes⟩ := c
    simp only at h
    cases callee <;> (try simp only at h) <;> (try (cases h; done))
    rename_i b
    cases b <;> (try simp only at h) <;> (try (cases h; done))
    case len =>
      split at h
      · rename_i x T hx hT
        obtain rfl : args = #[x] := by obtain ⟨l⟩ := args; exact congrArg Array.mk hx
        obtain rfl : argTypes = #[T] := by obtain ⟨l⟩ := argTypes; exact congrArg Array.mk hT
        simp [execOp, resolve, invoke, builtin, lenV_sound h]
      · cases h
    case min =>
      have := minV_sound (P := P) (w := w) (at_ := argTypes) (ty := type) h
      obtain ⟨l⟩ := args
      simp [execOp, resolve, invoke, builtin, this]
    case max =>
      have := maxV_sound (P := P) (w := w) (at_ := argTypes) (ty := type) h
      obtain ⟨l⟩ := args
      simp [execOp, resolve, invoke, builtin, this]
end Go.V
