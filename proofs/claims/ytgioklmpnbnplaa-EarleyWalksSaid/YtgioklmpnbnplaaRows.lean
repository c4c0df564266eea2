/-
  No cell of these rows narrows 'for every input' (looked for: loops, veiled, ifaces, maps, wideKeys, modest, calm, conditions, laid).
  DERIVED. THE GIVEN ROWS OF THIS SEAT. 19 by the template 'for every input the law returns true; each argument reads behind the call as it read before'; 0 by the template 'total and deterministic' (their statements: YtgioklmpnbnplaaTotals.lean).
  GIVEN WITH THE SEED: the statements are not yours to turn. If you find one false, say at which input.
  Laid BY PROGRAM, IN A SANDBOX (cutbox-rows.mjs): the forced cells as the released guide's own fill.sh prints them over the translation e94bd3004ae57365… (all of the seat's roots in one cut). By AI agents, Wed Nov 11 2026. No macro, syntax, notation, axiom, sorry.
-/
import Derived.Test.YtgioklmpnbnplaaChecked
import GoSem.Claim
import GoSem.ClaimJoined
import GoSem.ClaimMapViews
import Derived.JoinedTies
import Derived.KernelRfl
namespace Go.Proofs.Ytgioklmpnbnplaa
/- THE CELL 'sum', in the pinned program and in every row, IS THE sha256 OF THE DUMP (.gsa) THAT YtgioklmpnbnplaaProg.lean LOADS. Nothing in Lean hashes anything: it is a label: what it is worth is what the hold of that sum in a sandbox is worth. -/
noncomputable def Try.pinned : Pinned := { name := "ytgioklmpnbnplaa", sum := "e94bd3004ae57365c43658de4cb74d6830c66d86b59f1747ef27ec0b5cc78720", checked := Try.checked }
namespace Rows
def none {H : Type} : Left H := { results := [], args := [] }

/-- 'primerlaw13.CykCounts': WHATEVER THE INPUT: true; the input reads as it did. -/
def cykCountsSpec : ChangeSpec := { name := "cykCounts", fn := fun _ => fun
  | [d] => { results := [.lit (.bool true)], args := [d] }
  | _ => none }
def cykCountsRow : OpenClaim := { program := "ytgioklmpnbnplaa", sum := "e94bd3004ae57365c43658de4cb74d6830c66d86b59f1747ef27ec0b5cc78720", func := "primer/primerlaw13.CykCounts", spec := "cykCounts", plainKeys := false, apart := false }
def CykCountsSaid : Prop := cykCountsRow.holds Try.pinned (OpenSpec.ofChange cykCountsSpec)

/-- ITS FALSE NEIGHBOUR: 'it returns false'. Refute it at one input. -/
def cykCountsWrong : ChangeSpec := { name := "cykCounts", fn := fun _ => fun
  | [d] => { results := [.lit (.bool false)], args := [d] }
  | _ => none }
def CykCountsWrongFalsely : Prop := cykCountsRow.holds Try.pinned (OpenSpec.ofChange cykCountsWrong)

/-- 'primerlaw13.CykNone': WHATEVER THE INPUT: true; the input reads as it did. -/
def cykNoneSpec : ChangeSpec := { name := "cykNone", fn := fun _ => fun
  | [d1, d2, d3] => { results := [.lit (.bool true)], args := [d1, d2, d3] }
  | _ => none }
def cykNoneRow : OpenClaim := { program := "ytgioklmpnbnplaa", sum := "e94bd3004ae57365c43658de4cb74d6830c66d86b59f1747ef27ec0b5cc78720", func := "primer/primerlaw13.CykNone", spec := "cykNone", plainKeys := false, apart := false }
def CykNoneSaid : Prop := cykNoneRow.holds Try.pinned (OpenSpec.ofChange cykNoneSpec)

/-- ITS FALSE NEIGHBOUR: 'it returns false'. Refute it at one input. -/
def cykNoneWrong : ChangeSpec := { name := "cykNone", fn := fun _ => fun
  | [d1, d2, d3] => { results := [.lit (.bool false)], args := [d1, d2, d3] }
  | _ => none }
def CykNoneWrongFalsely : Prop := cykNoneRow.holds Try.pinned (OpenSpec.ofChange cykNoneWrong)

/-- 'primerlaw09.FactsLong': WHATEVER THE INPUT: true; the input reads as it did. -/
def factsLongSpec : ChangeSpec := { name := "factsLong", fn := fun _ => fun
  | [d] => { results := [.lit (.bool true)], args := [d] }
  | _ => none }
def factsLongRow : OpenClaim := { program := "ytgioklmpnbnplaa", sum := "e94bd3004ae57365c43658de4cb74d6830c66d86b59f1747ef27ec0b5cc78720", func := "primer/primerlaw09.FactsLong", spec := "factsLong", unfollowed := true, recurses := true, plainKeys := false, apart := false }
def FactsLongSaid : Prop := factsLongRow.holds Try.pinned (OpenSpec.ofChange factsLongSpec)

/-- ITS FALSE NEIGHBOUR: 'it returns false'. Refute it at one input. -/
def factsLongWrong : ChangeSpec := { name := "factsLong", fn := fun _ => fun
  | [d] => { results := [.lit (.bool false)], args := [d] }
  | _ => none }
def FactsLongWrongFalsely : Prop := factsLongRow.holds Try.pinned (OpenSpec.ofChange factsLongWrong)

/-- 'primerlaw09.FactsWords': WHATEVER THE INPUT: true; the input reads as it did. -/
def factsWordsSpec : ChangeSpec := { name := "factsWords", fn := fun _ => fun
  | [d] => { results := [.lit (.bool true)], args := [d] }
  | _ => none }
def factsWordsRow : OpenClaim := { program := "ytgioklmpnbnplaa", sum := "e94bd3004ae57365c43658de4cb74d6830c66d86b59f1747ef27ec0b5cc78720", func := "primer/primerlaw09.FactsWords", spec := "factsWords", unfollowed := true, recurses := true, plainKeys := false, apart := false }
def FactsWordsSaid : Prop := factsWordsRow.holds Try.pinned (OpenSpec.ofChange factsWordsSpec)

/-- ITS FALSE NEIGHBOUR: 'it returns false'. Refute it at one input. -/
def factsWordsWrong : ChangeSpec := { name := "factsWords", fn := fun _ => fun
  | [d] => { results := [.lit (.bool false)], args := [d] }
  | _ => none }
def FactsWordsWrongFalsely : Prop := factsWordsRow.holds Try.pinned (OpenSpec.ofChange factsWordsWrong)

/-- 'primerlaw17.EarleyTells': WHATEVER THE INPUT: true; the input reads as it did. -/
def earleyTellsSpec : ChangeSpec := { name := "earleyTells", fn := fun _ => fun
  | [d1, d2] => { results := [.lit (.bool true)], args := [d1, d2] }
  | _ => none }
def earleyTellsRow : OpenClaim := { program := "ytgioklmpnbnplaa", sum := "e94bd3004ae57365c43658de4cb74d6830c66d86b59f1747ef27ec0b5cc78720", func := "primer/primerlaw17.EarleyTells", spec := "earleyTells", unfollowed := true, recurses := true, plainKeys := false, apart := false }
def EarleyTellsSaid : Prop := earleyTellsRow.holds Try.pinned (OpenSpec.ofChange earleyTellsSpec)

/-- ITS FALSE NEIGHBOUR: 'it returns false'. Refute it at one input. -/
def earleyTellsWrong : ChangeSpec := { name := "earleyTells", fn := fun _ => fun
  | [d1, d2] => { results := [.lit (.bool false)], args := [d1, d2] }
  | _ => none }
def EarleyTellsWrongFalsely : Prop := earleyTellsRow.holds Try.pinned (OpenSpec.ofChange earleyTellsWrong)

/-- 'primerlaw17.EarleyWalks': WHATEVER THE INPUT: true; the input reads as it did. -/
def earleyWalksSpec : ChangeSpec := { name := "earleyWalks", fn := fun _ => fun
  | [d1, d2] => { results := [.lit (.bool true)], args := [d1, d2] }
  | _ => none }
def earleyWalksRow : OpenClaim := { program := "ytgioklmpnbnplaa", sum := "e94bd3004ae57365c43658de4cb74d6830c66d86b59f1747ef27ec0b5cc78720", func := "primer/primerlaw17.EarleyWalks", spec := "earleyWalks", unfollowed := true, recurses := true, plainKeys := false, apart := false }
def EarleyWalksSaid : Prop := earleyWalksRow.holds Try.pinned (OpenSpec.ofChange earleyWalksSpec)

/-- ITS FALSE NEIGHBOUR: 'it returns false'. Refute it at one input. -/
def earleyWalksWrong : ChangeSpec := { name := "earleyWalks", fn := fun _ => fun
  | [d1, d2] => { results := [.lit (.bool false)], args := [d1, d2] }
  | _ => none }
def EarleyWalksWrongFalsely : Prop := earleyWalksRow.holds Try.pinned (OpenSpec.ofChange earleyWalksWrong)

/-- 'primerlaw17.EarleyNone': WHATEVER THE INPUT: true; the input reads as it did. -/
def earleyNoneSpec : ChangeSpec := { name := "earleyNone", fn := fun _ => fun
  | [d1, d2, d3] => { results := [.lit (.bool true)], args := [d1, d2, d3] }
  | _ => none }
def earleyNoneRow : OpenClaim := { program := "ytgioklmpnbnplaa", sum := "e94bd3004ae57365c43658de4cb74d6830c66d86b59f1747ef27ec0b5cc78720", func := "primer/primerlaw17.EarleyNone", spec := "earleyNone", unfollowed := true, recurses := true, plainKeys := false, apart := false }
def EarleyNoneSaid : Prop := earleyNoneRow.holds Try.pinned (OpenSpec.ofChange earleyNoneSpec)

/-- ITS FALSE NEIGHBOUR: 'it returns false'. Refute it at one input. -/
def earleyNoneWrong : ChangeSpec := { name := "earleyNone", fn := fun _ => fun
  | [d1, d2, d3] => { results := [.lit (.bool false)], args := [d1, d2, d3] }
  | _ => none }
def EarleyNoneWrongFalsely : Prop := earleyNoneRow.holds Try.pinned (OpenSpec.ofChange earleyNoneWrong)

/-- 'primerlaw09.FactsWays': WHATEVER THE INPUT: true; the input reads as it did. -/
def factsWaysSpec : ChangeSpec := { name := "factsWays", fn := fun _ => fun
  | [d] => { results := [.lit (.bool true)], args := [d] }
  | _ => none }
def factsWaysRow : OpenClaim := { program := "ytgioklmpnbnplaa", sum := "e94bd3004ae57365c43658de4cb74d6830c66d86b59f1747ef27ec0b5cc78720", func := "primer/primerlaw09.FactsWays", spec := "factsWays", unfollowed := true, recurses := true, plainKeys := false, apart := false }
def FactsWaysSaid : Prop := factsWaysRow.holds Try.pinned (OpenSpec.ofChange factsWaysSpec)

/-- ITS FALSE NEIGHBOUR: 'it returns false'. Refute it at one input. -/
def factsWaysWrong : ChangeSpec := { name := "factsWays", fn := fun _ => fun
  | [d] => { results := [.lit (.bool false)], args := [d] }
  | _ => none }
def FactsWaysWrongFalsely : Prop := factsWaysRow.holds Try.pinned (OpenSpec.ofChange factsWaysWrong)

/-- 'primerlaw09.FactsFit': WHATEVER THE INPUT: true; the input reads as it did. -/
def factsFitSpec : ChangeSpec := { name := "factsFit", fn := fun _ => fun
  | [d] => { results := [.lit (.bool true)], args := [d] }
  | _ => none }
def factsFitRow : OpenClaim := { program := "ytgioklmpnbnplaa", sum := "e94bd3004ae57365c43658de4cb74d6830c66d86b59f1747ef27ec0b5cc78720", func := "primer/primerlaw09.FactsFit", spec := "factsFit", unfollowed := true, recurses := true, plainKeys := false, apart := false }
def FactsFitSaid : Prop := factsFitRow.holds Try.pinned (OpenSpec.ofChange factsFitSpec)

/-- ITS FALSE NEIGHBOUR: 'it returns false'. Refute it at one input. -/
def factsFitWrong : ChangeSpec := { name := "factsFit", fn := fun _ => fun
  | [d] => { results := [.lit (.bool false)], args := [d] }
  | _ => none }
def FactsFitWrongFalsely : Prop := factsFitRow.holds Try.pinned (OpenSpec.ofChange factsFitWrong)

/-- 'primerlaw09.FactsUnsound': WHATEVER THE INPUT: true; the input reads as it did. -/
def factsUnsoundSpec : ChangeSpec := { name := "factsUnsound", fn := fun _ => fun
  | [d1, d2] => { results := [.lit (.bool true)], args := [d1, d2] }
  | _ => none }
def factsUnsoundRow : OpenClaim := { program := "ytgioklmpnbnplaa", sum := "e94bd3004ae57365c43658de4cb74d6830c66d86b59f1747ef27ec0b5cc78720", func := "primer/primerlaw09.FactsUnsound", spec := "factsUnsound", unfollowed := true, recurses := true, plainKeys := false, apart := false }
def FactsUnsoundSaid : Prop := factsUnsoundRow.holds Try.pinned (OpenSpec.ofChange factsUnsoundSpec)

/-- ITS FALSE NEIGHBOUR: 'it returns false'. Refute it at one input. -/
def factsUnsoundWrong : ChangeSpec := { name := "factsUnsound", fn := fun _ => fun
  | [d1, d2] => { results := [.lit (.bool false)], args := [d1, d2] }
  | _ => none }
def FactsUnsoundWrongFalsely : Prop := factsUnsoundRow.holds Try.pinned (OpenSpec.ofChange factsUnsoundWrong)

/-- 'primerlaw10.LangWords': WHATEVER THE INPUT: true; the input reads as it did. -/
def langWordsSpec : ChangeSpec := { name := "langWords", fn := fun _ => fun
  | [d1, d2] => { results := [.lit (.bool true)], args := [d1, d2] }
  | _ => none }
def langWordsRow : OpenClaim := { program := "ytgioklmpnbnplaa", sum := "e94bd3004ae57365c43658de4cb74d6830c66d86b59f1747ef27ec0b5cc78720", func := "primer/primerlaw10.LangWords", spec := "langWords", inPlace := ["internal/bytealg.abigen_runtime_cmpstring"], unfollowed := true, recurses := true, plainKeys := false, apart := false }
def LangWordsSaid : Prop := langWordsRow.holds Try.pinned (OpenSpec.ofChange langWordsSpec)

/-- ITS FALSE NEIGHBOUR: 'it returns false'. Refute it at one input. -/
def langWordsWrong : ChangeSpec := { name := "langWords", fn := fun _ => fun
  | [d1, d2] => { results := [.lit (.bool false)], args := [d1, d2] }
  | _ => none }
def LangWordsWrongFalsely : Prop := langWordsRow.holds Try.pinned (OpenSpec.ofChange langWordsWrong)

/-- 'primerlaw10.LangDerives': WHATEVER THE INPUT: true; the input reads as it did. -/
def langDerivesSpec : ChangeSpec := { name := "langDerives", fn := fun _ => fun
  | [d1, d2] => { results := [.lit (.bool true)], args := [d1, d2] }
  | _ => none }
def langDerivesRow : OpenClaim := { program := "ytgioklmpnbnplaa", sum := "e94bd3004ae57365c43658de4cb74d6830c66d86b59f1747ef27ec0b5cc78720", func := "primer/primerlaw10.LangDerives", spec := "langDerives", inPlace := ["internal/bytealg.abigen_runtime_cmpstring"], unfollowed := true, recurses := true, plainKeys := false, apart := false }
def LangDerivesSaid : Prop := langDerivesRow.holds Try.pinned (OpenSpec.ofChange langDerivesSpec)

/-- ITS FALSE NEIGHBOUR: 'it returns false'. Refute it at one input. -/
def langDerivesWrong : ChangeSpec := { name := "langDerives", fn := fun _ => fun
  | [d1, d2] => { results := [.lit (.bool false)], args := [d1, d2] }
  | _ => none }
def LangDerivesWrongFalsely : Prop := langDerivesRow.holds Try.pinned (OpenSpec.ofChange langDerivesWrong)

/-- 'primerlaw10.LangFits': WHATEVER THE INPUT: true; the input reads as it did. -/
def langFitsSpec : ChangeSpec := { name := "langFits", fn := fun _ => fun
  | [d1, d2] => { results := [.lit (.bool true)], args := [d1, d2] }
  | _ => none }
def langFitsRow : OpenClaim := { program := "ytgioklmpnbnplaa", sum := "e94bd3004ae57365c43658de4cb74d6830c66d86b59f1747ef27ec0b5cc78720", func := "primer/primerlaw10.LangFits", spec := "langFits", inPlace := ["internal/bytealg.abigen_runtime_cmpstring"], unfollowed := true, recurses := true, plainKeys := false, apart := false }
def LangFitsSaid : Prop := langFitsRow.holds Try.pinned (OpenSpec.ofChange langFitsSpec)

/-- ITS FALSE NEIGHBOUR: 'it returns false'. Refute it at one input. -/
def langFitsWrong : ChangeSpec := { name := "langFits", fn := fun _ => fun
  | [d1, d2] => { results := [.lit (.bool false)], args := [d1, d2] }
  | _ => none }
def LangFitsWrongFalsely : Prop := langFitsRow.holds Try.pinned (OpenSpec.ofChange langFitsWrong)

/-- 'primerlaw10.LangMany': WHATEVER THE INPUT: true; the input reads as it did. -/
def langManySpec : ChangeSpec := { name := "langMany", fn := fun _ => fun
  | [d1, d2] => { results := [.lit (.bool true)], args := [d1, d2] }
  | _ => none }
def langManyRow : OpenClaim := { program := "ytgioklmpnbnplaa", sum := "e94bd3004ae57365c43658de4cb74d6830c66d86b59f1747ef27ec0b5cc78720", func := "primer/primerlaw10.LangMany", spec := "langMany", inPlace := ["internal/bytealg.abigen_runtime_cmpstring"], unfollowed := true, recurses := true, plainKeys := false, apart := false }
def LangManySaid : Prop := langManyRow.holds Try.pinned (OpenSpec.ofChange langManySpec)

/-- ITS FALSE NEIGHBOUR: 'it returns false'. Refute it at one input. -/
def langManyWrong : ChangeSpec := { name := "langMany", fn := fun _ => fun
  | [d1, d2] => { results := [.lit (.bool false)], args := [d1, d2] }
  | _ => none }
def LangManyWrongFalsely : Prop := langManyRow.holds Try.pinned (OpenSpec.ofChange langManyWrong)

/-- 'primerlaw12.CnfSteps': WHATEVER THE INPUT: true; the input reads as it did. -/
def cnfStepsSpec : ChangeSpec := { name := "cnfSteps", fn := fun _ => fun
  | [d] => { results := [.lit (.bool true)], args := [d] }
  | _ => none }
def cnfStepsRow : OpenClaim := { program := "ytgioklmpnbnplaa", sum := "e94bd3004ae57365c43658de4cb74d6830c66d86b59f1747ef27ec0b5cc78720", func := "primer/primerlaw12.CnfSteps", spec := "cnfSteps", unfollowed := true, recurses := true, plainKeys := false, apart := false }
def CnfStepsSaid : Prop := cnfStepsRow.holds Try.pinned (OpenSpec.ofChange cnfStepsSpec)

/-- ITS FALSE NEIGHBOUR: 'it returns false'. Refute it at one input. -/
def cnfStepsWrong : ChangeSpec := { name := "cnfSteps", fn := fun _ => fun
  | [d] => { results := [.lit (.bool false)], args := [d] }
  | _ => none }
def CnfStepsWrongFalsely : Prop := cnfStepsRow.holds Try.pinned (OpenSpec.ofChange cnfStepsWrong)

/-- 'primerlaw12.CnfMixed': WHATEVER THE INPUT: true; the input reads as it did. -/
def cnfMixedSpec : ChangeSpec := { name := "cnfMixed", fn := fun _ => fun
  | [d1, d2] => { results := [.lit (.bool true)], args := [d1, d2] }
  | _ => none }
def cnfMixedRow : OpenClaim := { program := "ytgioklmpnbnplaa", sum := "e94bd3004ae57365c43658de4cb74d6830c66d86b59f1747ef27ec0b5cc78720", func := "primer/primerlaw12.CnfMixed", spec := "cnfMixed", unfollowed := true, recurses := true, plainKeys := false, apart := false }
def CnfMixedSaid : Prop := cnfMixedRow.holds Try.pinned (OpenSpec.ofChange cnfMixedSpec)

/-- ITS FALSE NEIGHBOUR: 'it returns false'. Refute it at one input. -/
def cnfMixedWrong : ChangeSpec := { name := "cnfMixed", fn := fun _ => fun
  | [d1, d2] => { results := [.lit (.bool false)], args := [d1, d2] }
  | _ => none }
def CnfMixedWrongFalsely : Prop := cnfMixedRow.holds Try.pinned (OpenSpec.ofChange cnfMixedWrong)

/-- 'primerlaw12.CnfNormal': WHATEVER THE INPUT: true; the input reads as it did. -/
def cnfNormalSpec : ChangeSpec := { name := "cnfNormal", fn := fun _ => fun
  | [d1, d2] => { results := [.lit (.bool true)], args := [d1, d2] }
  | _ => none }
def cnfNormalRow : OpenClaim := { program := "ytgioklmpnbnplaa", sum := "e94bd3004ae57365c43658de4cb74d6830c66d86b59f1747ef27ec0b5cc78720", func := "primer/primerlaw12.CnfNormal", spec := "cnfNormal", unfollowed := true, recurses := true, plainKeys := false, apart := false }
def CnfNormalSaid : Prop := cnfNormalRow.holds Try.pinned (OpenSpec.ofChange cnfNormalSpec)

/-- ITS FALSE NEIGHBOUR: 'it returns false'. Refute it at one input. -/
def cnfNormalWrong : ChangeSpec := { name := "cnfNormal", fn := fun _ => fun
  | [d1, d2] => { results := [.lit (.bool false)], args := [d1, d2] }
  | _ => none }
def CnfNormalWrongFalsely : Prop := cnfNormalRow.holds Try.pinned (OpenSpec.ofChange cnfNormalWrong)

/-- 'primerlaw10.LangSame': WHATEVER THE INPUT: true; the input reads as it did. -/
def langSameSpec : ChangeSpec := { name := "langSame", fn := fun _ => fun
  | [d1, d2, d3] => { results := [.lit (.bool true)], args := [d1, d2, d3] }
  | _ => none }
def langSameRow : OpenClaim := { program := "ytgioklmpnbnplaa", sum := "e94bd3004ae57365c43658de4cb74d6830c66d86b59f1747ef27ec0b5cc78720", func := "primer/primerlaw10.LangSame", spec := "langSame", inPlace := ["internal/bytealg.abigen_runtime_cmpstring", "internal/abi.NoEscape"], unfollowed := true, recurses := true, plainKeys := false, apart := false }
def LangSameSaid : Prop := langSameRow.holds Try.pinned (OpenSpec.ofChange langSameSpec)

/-- ITS FALSE NEIGHBOUR: 'it returns false'. Refute it at one input. -/
def langSameWrong : ChangeSpec := { name := "langSame", fn := fun _ => fun
  | [d1, d2, d3] => { results := [.lit (.bool false)], args := [d1, d2, d3] }
  | _ => none }
def LangSameWrongFalsely : Prop := langSameRow.holds Try.pinned (OpenSpec.ofChange langSameWrong)

/-- 'primerlaw13.CykWords': WHATEVER THE INPUT: true; the input reads as it did. -/
def cykWordsSpec : ChangeSpec := { name := "cykWords", fn := fun _ => fun
  | [d1, d2] => { results := [.lit (.bool true)], args := [d1, d2] }
  | _ => none }
def cykWordsRow : OpenClaim := { program := "ytgioklmpnbnplaa", sum := "e94bd3004ae57365c43658de4cb74d6830c66d86b59f1747ef27ec0b5cc78720", func := "primer/primerlaw13.CykWords", spec := "cykWords", unfollowed := true, recurses := true, plainKeys := false, apart := false }
def CykWordsSaid : Prop := cykWordsRow.holds Try.pinned (OpenSpec.ofChange cykWordsSpec)

/-- ITS FALSE NEIGHBOUR: 'it returns false'. Refute it at one input. -/
def cykWordsWrong : ChangeSpec := { name := "cykWords", fn := fun _ => fun
  | [d1, d2] => { results := [.lit (.bool false)], args := [d1, d2] }
  | _ => none }
def CykWordsWrongFalsely : Prop := cykWordsRow.holds Try.pinned (OpenSpec.ofChange cykWordsWrong)

/- THE SECOND FORM. 'bulk': how many values and letters a reading holds, each counted each time it is reached (what is shared counts as often as it is met; a slice's spare places count too). A statement '..UptoSaid' is the law's where the arguments, and the package variables that the reading takes, are together of bulk at most 1048576: NARROWER than '..Said'. Prove '..Said' where nothing that the law and all that it calls make is longer than what came in: it says more and counts as full. Else prove '..UptoSaid'. A law counts once. -/
mutual
def uptoBulk {H : Type} : DataW H → Nat
  | .lit (.string bytes) => bytes.length + 1
  | .lit _ => 1
  | .nil => 1
  | .ptr d => uptoBulk d + 1
  | .slice elems spare => uptoBulkAll elems + uptoBulkAll spare + 1
  | .agg parts => uptoBulkAll parts + 1
  | .iface _ d => uptoBulk d + 1
  | .map entries => uptoBulkEntries entries + 1
  | .held _ => 1
def uptoBulkAll {H : Type} : List (DataW H) → Nat
  | [] => 0
  | d :: r => uptoBulk d + uptoBulkAll r
def uptoBulkEntries {H : Type} : List (Lit × DataW H) → Nat
  | [] => 0
  | x :: r => uptoBulkEntry x + uptoBulkEntries r
def uptoBulkEntry {H : Type} : Lit × DataW H → Nat
  | (.string bytes, d) => bytes.length + uptoBulk d + 1
  | (_, d) => uptoBulk d + 1
 end
def uptoSmall : (H : Type) → List (DataW H) → Bool := fun _ ds => decide (uptoBulkAll ds ≤ 1048576)
def OpenSpec.upto (s : _root_.Go.ChangeSpec) : _root_.Go.OpenSpec := { _root_.Go.OpenSpec.ofChange s with cond := some uptoSmall }

/-- 'primerlaw13.CykCounts', WHERE WHAT IT READS IS OF BULK AT MOST 1048576: true; the input reads as it did. -/
def cykCountsUptoRow : OpenClaim := { program := "ytgioklmpnbnplaa", sum := "e94bd3004ae57365c43658de4cb74d6830c66d86b59f1747ef27ec0b5cc78720", func := "primer/primerlaw13.CykCounts", spec := "cykCounts", plainKeys := false, apart := false, narrowed := true }
def CykCountsUptoSaid : Prop := cykCountsUptoRow.holds Try.pinned (OpenSpec.upto cykCountsSpec)

/-- 'primerlaw13.CykNone', WHERE WHAT IT READS IS OF BULK AT MOST 1048576: true; the input reads as it did. -/
def cykNoneUptoRow : OpenClaim := { program := "ytgioklmpnbnplaa", sum := "e94bd3004ae57365c43658de4cb74d6830c66d86b59f1747ef27ec0b5cc78720", func := "primer/primerlaw13.CykNone", spec := "cykNone", plainKeys := false, apart := false, narrowed := true }
def CykNoneUptoSaid : Prop := cykNoneUptoRow.holds Try.pinned (OpenSpec.upto cykNoneSpec)

/-- 'primerlaw09.FactsLong', WHERE WHAT IT READS IS OF BULK AT MOST 1048576: true; the input reads as it did. -/
def factsLongUptoRow : OpenClaim := { program := "ytgioklmpnbnplaa", sum := "e94bd3004ae57365c43658de4cb74d6830c66d86b59f1747ef27ec0b5cc78720", func := "primer/primerlaw09.FactsLong", spec := "factsLong", unfollowed := true, recurses := true, plainKeys := false, apart := false, narrowed := true }
def FactsLongUptoSaid : Prop := factsLongUptoRow.holds Try.pinned (OpenSpec.upto factsLongSpec)

/-- 'primerlaw09.FactsWords', WHERE WHAT IT READS IS OF BULK AT MOST 1048576: true; the input reads as it did. -/
def factsWordsUptoRow : OpenClaim := { program := "ytgioklmpnbnplaa", sum := "e94bd3004ae57365c43658de4cb74d6830c66d86b59f1747ef27ec0b5cc78720", func := "primer/primerlaw09.FactsWords", spec := "factsWords", unfollowed := true, recurses := true, plainKeys := false, apart := false, narrowed := true }
def FactsWordsUptoSaid : Prop := factsWordsUptoRow.holds Try.pinned (OpenSpec.upto factsWordsSpec)

/-- 'primerlaw17.EarleyTells', WHERE WHAT IT READS IS OF BULK AT MOST 1048576: true; the input reads as it did. -/
def earleyTellsUptoRow : OpenClaim := { program := "ytgioklmpnbnplaa", sum := "e94bd3004ae57365c43658de4cb74d6830c66d86b59f1747ef27ec0b5cc78720", func := "primer/primerlaw17.EarleyTells", spec := "earleyTells", unfollowed := true, recurses := true, plainKeys := false, apart := false, narrowed := true }
def EarleyTellsUptoSaid : Prop := earleyTellsUptoRow.holds Try.pinned (OpenSpec.upto earleyTellsSpec)

/-- 'primerlaw17.EarleyWalks', WHERE WHAT IT READS IS OF BULK AT MOST 1048576: true; the input reads as it did. -/
def earleyWalksUptoRow : OpenClaim := { program := "ytgioklmpnbnplaa", sum := "e94bd3004ae57365c43658de4cb74d6830c66d86b59f1747ef27ec0b5cc78720", func := "primer/primerlaw17.EarleyWalks", spec := "earleyWalks", unfollowed := true, recurses := true, plainKeys := false, apart := false, narrowed := true }
def EarleyWalksUptoSaid : Prop := earleyWalksUptoRow.holds Try.pinned (OpenSpec.upto earleyWalksSpec)

/-- 'primerlaw17.EarleyNone', WHERE WHAT IT READS IS OF BULK AT MOST 1048576: true; the input reads as it did. -/
def earleyNoneUptoRow : OpenClaim := { program := "ytgioklmpnbnplaa", sum := "e94bd3004ae57365c43658de4cb74d6830c66d86b59f1747ef27ec0b5cc78720", func := "primer/primerlaw17.EarleyNone", spec := "earleyNone", unfollowed := true, recurses := true, plainKeys := false, apart := false, narrowed := true }
def EarleyNoneUptoSaid : Prop := earleyNoneUptoRow.holds Try.pinned (OpenSpec.upto earleyNoneSpec)

/-- 'primerlaw09.FactsWays', WHERE WHAT IT READS IS OF BULK AT MOST 1048576: true; the input reads as it did. -/
def factsWaysUptoRow : OpenClaim := { program := "ytgioklmpnbnplaa", sum := "e94bd3004ae57365c43658de4cb74d6830c66d86b59f1747ef27ec0b5cc78720", func := "primer/primerlaw09.FactsWays", spec := "factsWays", unfollowed := true, recurses := true, plainKeys := false, apart := false, narrowed := true }
def FactsWaysUptoSaid : Prop := factsWaysUptoRow.holds Try.pinned (OpenSpec.upto factsWaysSpec)

/-- 'primerlaw09.FactsFit', WHERE WHAT IT READS IS OF BULK AT MOST 1048576: true; the input reads as it did. -/
def factsFitUptoRow : OpenClaim := { program := "ytgioklmpnbnplaa", sum := "e94bd3004ae57365c43658de4cb74d6830c66d86b59f1747ef27ec0b5cc78720", func := "primer/primerlaw09.FactsFit", spec := "factsFit", unfollowed := true, recurses := true, plainKeys := false, apart := false, narrowed := true }
def FactsFitUptoSaid : Prop := factsFitUptoRow.holds Try.pinned (OpenSpec.upto factsFitSpec)

/-- 'primerlaw09.FactsUnsound', WHERE WHAT IT READS IS OF BULK AT MOST 1048576: true; the input reads as it did. -/
def factsUnsoundUptoRow : OpenClaim := { program := "ytgioklmpnbnplaa", sum := "e94bd3004ae57365c43658de4cb74d6830c66d86b59f1747ef27ec0b5cc78720", func := "primer/primerlaw09.FactsUnsound", spec := "factsUnsound", unfollowed := true, recurses := true, plainKeys := false, apart := false, narrowed := true }
def FactsUnsoundUptoSaid : Prop := factsUnsoundUptoRow.holds Try.pinned (OpenSpec.upto factsUnsoundSpec)

/-- 'primerlaw10.LangWords', WHERE WHAT IT READS IS OF BULK AT MOST 1048576: true; the input reads as it did. -/
def langWordsUptoRow : OpenClaim := { program := "ytgioklmpnbnplaa", sum := "e94bd3004ae57365c43658de4cb74d6830c66d86b59f1747ef27ec0b5cc78720", func := "primer/primerlaw10.LangWords", spec := "langWords", inPlace := ["internal/bytealg.abigen_runtime_cmpstring"], unfollowed := true, recurses := true, plainKeys := false, apart := false, narrowed := true }
def LangWordsUptoSaid : Prop := langWordsUptoRow.holds Try.pinned (OpenSpec.upto langWordsSpec)

/-- 'primerlaw10.LangDerives', WHERE WHAT IT READS IS OF BULK AT MOST 1048576: true; the input reads as it did. -/
def langDerivesUptoRow : OpenClaim := { program := "ytgioklmpnbnplaa", sum := "e94bd3004ae57365c43658de4cb74d6830c66d86b59f1747ef27ec0b5cc78720", func := "primer/primerlaw10.LangDerives", spec := "langDerives", inPlace := ["internal/bytealg.abigen_runtime_cmpstring"], unfollowed := true, recurses := true, plainKeys := false, apart := false, narrowed := true }
def LangDerivesUptoSaid : Prop := langDerivesUptoRow.holds Try.pinned (OpenSpec.upto langDerivesSpec)

/-- 'primerlaw10.LangFits', WHERE WHAT IT READS IS OF BULK AT MOST 1048576: true; the input reads as it did. -/
def langFitsUptoRow : OpenClaim := { program := "ytgioklmpnbnplaa", sum := "e94bd3004ae57365c43658de4cb74d6830c66d86b59f1747ef27ec0b5cc78720", func := "primer/primerlaw10.LangFits", spec := "langFits", inPlace := ["internal/bytealg.abigen_runtime_cmpstring"], unfollowed := true, recurses := true, plainKeys := false, apart := false, narrowed := true }
def LangFitsUptoSaid : Prop := langFitsUptoRow.holds Try.pinned (OpenSpec.upto langFitsSpec)

/-- 'primerlaw10.LangMany', WHERE WHAT IT READS IS OF BULK AT MOST 1048576: true; the input reads as it did. -/
def langManyUptoRow : OpenClaim := { program := "ytgioklmpnbnplaa", sum := "e94bd3004ae57365c43658de4cb74d6830c66d86b59f1747ef27ec0b5cc78720", func := "primer/primerlaw10.LangMany", spec := "langMany", inPlace := ["internal/bytealg.abigen_runtime_cmpstring"], unfollowed := true, recurses := true, plainKeys := false, apart := false, narrowed := true }
def LangManyUptoSaid : Prop := langManyUptoRow.holds Try.pinned (OpenSpec.upto langManySpec)

/-- 'primerlaw12.CnfSteps', WHERE WHAT IT READS IS OF BULK AT MOST 1048576: true; the input reads as it did. -/
def cnfStepsUptoRow : OpenClaim := { program := "ytgioklmpnbnplaa", sum := "e94bd3004ae57365c43658de4cb74d6830c66d86b59f1747ef27ec0b5cc78720", func := "primer/primerlaw12.CnfSteps", spec := "cnfSteps", unfollowed := true, recurses := true, plainKeys := false, apart := false, narrowed := true }
def CnfStepsUptoSaid : Prop := cnfStepsUptoRow.holds Try.pinned (OpenSpec.upto cnfStepsSpec)

/-- 'primerlaw12.CnfMixed', WHERE WHAT IT READS IS OF BULK AT MOST 1048576: true; the input reads as it did. -/
def cnfMixedUptoRow : OpenClaim := { program := "ytgioklmpnbnplaa", sum := "e94bd3004ae57365c43658de4cb74d6830c66d86b59f1747ef27ec0b5cc78720", func := "primer/primerlaw12.CnfMixed", spec := "cnfMixed", unfollowed := true, recurses := true, plainKeys := false, apart := false, narrowed := true }
def CnfMixedUptoSaid : Prop := cnfMixedUptoRow.holds Try.pinned (OpenSpec.upto cnfMixedSpec)

/-- 'primerlaw12.CnfNormal', WHERE WHAT IT READS IS OF BULK AT MOST 1048576: true; the input reads as it did. -/
def cnfNormalUptoRow : OpenClaim := { program := "ytgioklmpnbnplaa", sum := "e94bd3004ae57365c43658de4cb74d6830c66d86b59f1747ef27ec0b5cc78720", func := "primer/primerlaw12.CnfNormal", spec := "cnfNormal", unfollowed := true, recurses := true, plainKeys := false, apart := false, narrowed := true }
def CnfNormalUptoSaid : Prop := cnfNormalUptoRow.holds Try.pinned (OpenSpec.upto cnfNormalSpec)

/-- 'primerlaw10.LangSame', WHERE WHAT IT READS IS OF BULK AT MOST 1048576: true; the input reads as it did. -/
def langSameUptoRow : OpenClaim := { program := "ytgioklmpnbnplaa", sum := "e94bd3004ae57365c43658de4cb74d6830c66d86b59f1747ef27ec0b5cc78720", func := "primer/primerlaw10.LangSame", spec := "langSame", inPlace := ["internal/bytealg.abigen_runtime_cmpstring", "internal/abi.NoEscape"], unfollowed := true, recurses := true, plainKeys := false, apart := false, narrowed := true }
def LangSameUptoSaid : Prop := langSameUptoRow.holds Try.pinned (OpenSpec.upto langSameSpec)

/-- 'primerlaw13.CykWords', WHERE WHAT IT READS IS OF BULK AT MOST 1048576: true; the input reads as it did. -/
def cykWordsUptoRow : OpenClaim := { program := "ytgioklmpnbnplaa", sum := "e94bd3004ae57365c43658de4cb74d6830c66d86b59f1747ef27ec0b5cc78720", func := "primer/primerlaw13.CykWords", spec := "cykWords", unfollowed := true, recurses := true, plainKeys := false, apart := false, narrowed := true }
def CykWordsUptoSaid : Prop := cykWordsUptoRow.holds Try.pinned (OpenSpec.upto cykWordsSpec)

end Rows
end Go.Proofs.Ytgioklmpnbnplaa
