/- Whoever goes on by what may come next is at a beginning of a word all along: the law EarleyWalks answers true, whatever the input. Conditions: none. -/
import Derived.Test.YtgioklmpnbnplaaRows
import Derived.WalkKit
import Derived.ProofKit
import Derived.OpenShut
import Derived.ChangeOld
import Derived.Below
import Derived.Test.YtgioklmpnbnplaaEwa
import Derived.Test.YtgioklmpnbnplaaKr2
import Derived.Test.YtgioklmpnbnplaaEarleyWalksC
set_option linter.unusedVariables false
namespace Go.Proofs.Ytgioklmpnbnplaa.earleyWalks
open Go.ChangeShapes Go.WideShapes Go.ChangeAt Go.RowKit Go.V

theorem own : ownKnob Try.prog.godebug = none := by kernel_rfl
theorem laidOut : laidOutB Try.prog = true := by kernel_rfl
theorem reads : (Try.f8.params.toList.all fun t => Try.prog.readableRec t && decide (t < Try.prog.types.size)) = true := by kernel_rfl
set_option maxRecDepth 100000 in
theorem lifted (os : Os) (started : os.Started) (H : Type) (enc : TypeId × Value → H) :
    ReturnsInHanded {} Try.checked os 8 .any (Rows.earleyWalksSpec.pre6 enc Try.prog Try.f8 Rows.earleyWalksRow.domain false) (Rows.earleyWalksSpec.post enc Try.prog Try.f8 false true false false) := by
  refine returnsInHanded_of_change (C := Try.checked) own started (by kernel_rfl) Try.func8
    (ChangeSpec.witness6 (enc := enc) (C := Try.checked) false ⟨#[], #[.agg #[.int .i64 0, .int .i64 0, .int .i64 0, .slice none 0 0, .slice none 0 0], .slice none 0 0], []⟩ 8 (by kernel_rfl) (by kernel_rfl) (by kernel_rfl) (by kernel_rfl)) ?_
  intro W base args ds gs before hval0 hW hcnd _
  have hval : ∀ (j : Nat) t v, Try.f8.params[j]? = some t → args[j]? = some v → Value.okWide Try.prog W .any base t v := hval0
  have hW' := hW
  obtain ⟨p, q, hA0, hV, rfl, hfz, hnd⟩ := hW
  have hA : DataW.TrodAll enc Try.prog W 0 (fun _ => true) true Try.f8.params.toList args.toList ds p := hA0
  have hAk := hA
  obtain ⟨rfl, rfl⟩ := trodVars_none hV
  simp only [List.append_nil] at hW'
  have hlt : ∀ x ∈ p, x.block < W.heap.size := fun x hx => by simpa using hW'.lt x hx
  rw [Try.params8] at hA hval
  obtain ⟨v0, vs0, e0, es0, p0, q0, hargs, rfl, rfl, h0, r0⟩ := trodAll_cons hA
  obtain ⟨v1, vs1, e1, es1, p1, q1, rfl, rfl, rfl, h1, r1⟩ := trodAll_cons r0
  obtain ⟨rfl, rfl, rfl⟩ := trodAll_nil r1
  obtain rfl : args = #[v0, v1] := by rw [← Array.toArray_toList (xs := args), hargs]
  obtain ⟨a0, b0, c0⟩ := open_Raw Try.underlying58 rfl rfl rfl rfl rfl rfl rfl rfl rfl rfl Try.underlying3 Try.underlying23 Try.underlying44 (by kernel_rfl) (by kernel_rfl) (by kernel_rfl) (by kernel_rfl) (hval 0 _ v0 rfl rfl) h0
  obtain ⟨a1, b1⟩ := open_Ints Try.underlying23 Try.underlying3 (by kernel_rfl) (hval 1 _ v1 rfl rfl) h1
  clear hA0 hval0
  refine (walks_ok v0 a0 v1 a1 W b0 b1.1).2.mono fun e W' ⟨v, he, hv, bel⟩ => ?_
  subst he hv
  exact ⟨_, rfl, _, _, _, [], _, [], hW', trodAll_mk1 (shut_bool Try.underlying4 _), trodAll_below laidOut bel reads hAk hlt, rfl, bel.frame _, fun h => by cases h⟩
theorem over : Rows.earleyWalksRow.holds Try.pinned (OpenSpec.ofChange Rows.earleyWalksSpec) :=
  OpenClaim.holds_of_wide 8 Try.f8 rfl rfl rfl rfl rfl rfl rfl ⟨rfl, rfl, rfl, rfl, rfl⟩ rfl rfl rfl rfl rfl (by kernel_rfl) Try.func8 closed
    (of_decide_eq_true (by kernel_rfl)) (by unfold Func.isWrapper; first | (rw [if_pos (by decide +kernel)]; kernel_rfl) | (rw [if_neg (by decide +kernel)]; exact ⟨rfl, rfl⟩))
    (fun os started H enc _ => lifted os started H enc)
theorem proved : Rows.EarleyWalksSaid := over
#print axioms proved
end Go.Proofs.Ytgioklmpnbnplaa.earleyWalks
