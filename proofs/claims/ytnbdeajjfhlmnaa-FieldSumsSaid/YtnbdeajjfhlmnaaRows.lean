/-
  No cell of these rows narrows 'for every input' (looked for: loops, veiled, ifaces, maps, wideKeys, modest, calm, conditions, laid).
  DERIVED. THE GIVEN ROWS OF THIS SEAT. 11 by the template 'for every input the law returns true; each argument reads behind the call as it read before'; 0 by the template 'total and deterministic' (their statements: YtnbdeajjfhlmnaaTotals.lean).
  GIVEN WITH THE SEED: the statements are not yours to turn. If you find one false, say at which input.
  Laid BY PROGRAM, IN A SANDBOX (cutbox-rows.mjs): the forced cells as the released guide's own fill.sh prints them over the translation eef70ea3b975ec8d… (all of the seat's roots in one cut). By AI agents, Wed Nov 11 2026. No macro, syntax, notation, axiom, sorry.
-/
import Derived.Test.YtnbdeajjfhlmnaaChecked
import GoSem.Claim
import GoSem.ClaimJoined
import GoSem.ClaimMapViews
import Derived.JoinedTies
import Derived.KernelRfl
namespace Go.Proofs.Ytnbdeajjfhlmnaa
/- THE CELL 'sum', in the pinned program and in every row, IS THE sha256 OF THE DUMP (.gsa) THAT YtnbdeajjfhlmnaaProg.lean LOADS. Nothing in Lean hashes anything: it is a label: what it is worth is what the hold of that sum in a sandbox is worth. -/
noncomputable def Try.pinned : Pinned := { name := "ytnbdeajjfhlmnaa", sum := "eef70ea3b975ec8d11bc23de1bfa63b9a20945a8442dead7c938b8d07ec7e1e8", checked := Try.checked }
namespace Rows
def none {H : Type} : Left H := { results := [], args := [] }

/-- 'aditlaw01.FieldSums': WHATEVER THE INPUT: true; the input reads as it did. -/
def fieldSumsSpec : ChangeSpec := { name := "fieldSums", fn := fun _ => fun
  | [d] => { results := [.lit (.bool true)], args := [d] }
  | _ => none }
def fieldSumsRow : OpenClaim := { program := "ytnbdeajjfhlmnaa", sum := "eef70ea3b975ec8d11bc23de1bfa63b9a20945a8442dead7c938b8d07ec7e1e8", func := "adit/aditlaw01.FieldSums", spec := "fieldSums", inPlace := ["math/bits.Add64"], apart := false }
def FieldSumsSaid : Prop := fieldSumsRow.holds Try.pinned (OpenSpec.ofChange fieldSumsSpec)

/-- ITS FALSE NEIGHBOUR: 'it returns false'. Refute it at one input. -/
def fieldSumsWrong : ChangeSpec := { name := "fieldSums", fn := fun _ => fun
  | [d] => { results := [.lit (.bool false)], args := [d] }
  | _ => none }
def FieldSumsWrongFalsely : Prop := fieldSumsRow.holds Try.pinned (OpenSpec.ofChange fieldSumsWrong)

/-- 'aditlaw01.FieldOf': WHATEVER THE INPUT: true; the input reads as it did. -/
def fieldOfSpec : ChangeSpec := { name := "fieldOf", fn := fun _ => fun
  | [d] => { results := [.lit (.bool true)], args := [d] }
  | _ => none }
def fieldOfRow : OpenClaim := { program := "ytnbdeajjfhlmnaa", sum := "eef70ea3b975ec8d11bc23de1bfa63b9a20945a8442dead7c938b8d07ec7e1e8", func := "adit/aditlaw01.FieldOf", spec := "fieldOf", inPlace := ["math/bits.Add64"], recurses := true, apart := false }
def FieldOfSaid : Prop := fieldOfRow.holds Try.pinned (OpenSpec.ofChange fieldOfSpec)

/-- ITS FALSE NEIGHBOUR: 'it returns false'. Refute it at one input. -/
def fieldOfWrong : ChangeSpec := { name := "fieldOf", fn := fun _ => fun
  | [d] => { results := [.lit (.bool false)], args := [d] }
  | _ => none }
def FieldOfWrongFalsely : Prop := fieldOfRow.holds Try.pinned (OpenSpec.ofChange fieldOfWrong)

/-- 'aditlaw01.FieldTwo': WHATEVER THE INPUT: true; the input reads as it did. -/
def fieldTwoSpec : ChangeSpec := { name := "fieldTwo", fn := fun _ => fun
  | [d1, d2] => { results := [.lit (.bool true)], args := [d1, d2] }
  | _ => none }
def fieldTwoRow : OpenClaim := { program := "ytnbdeajjfhlmnaa", sum := "eef70ea3b975ec8d11bc23de1bfa63b9a20945a8442dead7c938b8d07ec7e1e8", func := "adit/aditlaw01.FieldTwo", spec := "fieldTwo", inPlace := ["math/bits.Add64"], apart := false }
def FieldTwoSaid : Prop := fieldTwoRow.holds Try.pinned (OpenSpec.ofChange fieldTwoSpec)

/-- ITS FALSE NEIGHBOUR: 'it returns false'. Refute it at one input. -/
def fieldTwoWrong : ChangeSpec := { name := "fieldTwo", fn := fun _ => fun
  | [d1, d2] => { results := [.lit (.bool false)], args := [d1, d2] }
  | _ => none }
def FieldTwoWrongFalsely : Prop := fieldTwoRow.holds Try.pinned (OpenSpec.ofChange fieldTwoWrong)

/-- 'aditlaw01.FieldRules': WHATEVER THE INPUT: true; the input reads as it did. -/
def fieldRulesSpec : ChangeSpec := { name := "fieldRules", fn := fun _ => fun
  | [d1, d2, d3] => { results := [.lit (.bool true)], args := [d1, d2, d3] }
  | _ => none }
def fieldRulesRow : OpenClaim := { program := "ytnbdeajjfhlmnaa", sum := "eef70ea3b975ec8d11bc23de1bfa63b9a20945a8442dead7c938b8d07ec7e1e8", func := "adit/aditlaw01.FieldRules", spec := "fieldRules", inPlace := ["math/bits.Add64"], apart := false }
def FieldRulesSaid : Prop := fieldRulesRow.holds Try.pinned (OpenSpec.ofChange fieldRulesSpec)

/-- ITS FALSE NEIGHBOUR: 'it returns false'. Refute it at one input. -/
def fieldRulesWrong : ChangeSpec := { name := "fieldRules", fn := fun _ => fun
  | [d1, d2, d3] => { results := [.lit (.bool false)], args := [d1, d2, d3] }
  | _ => none }
def FieldRulesWrongFalsely : Prop := fieldRulesRow.holds Try.pinned (OpenSpec.ofChange fieldRulesWrong)

/-- 'aditlaw01.FieldExponents': WHATEVER THE INPUT: true; the input reads as it did. -/
def fieldExponentsSpec : ChangeSpec := { name := "fieldExponents", fn := fun _ => fun
  | [d1, d2, d3] => { results := [.lit (.bool true)], args := [d1, d2, d3] }
  | _ => none }
def fieldExponentsRow : OpenClaim := { program := "ytnbdeajjfhlmnaa", sum := "eef70ea3b975ec8d11bc23de1bfa63b9a20945a8442dead7c938b8d07ec7e1e8", func := "adit/aditlaw01.FieldExponents", spec := "fieldExponents", inPlace := ["math/bits.Add64"], apart := false }
def FieldExponentsSaid : Prop := fieldExponentsRow.holds Try.pinned (OpenSpec.ofChange fieldExponentsSpec)

/-- ITS FALSE NEIGHBOUR: 'it returns false'. Refute it at one input. -/
def fieldExponentsWrong : ChangeSpec := { name := "fieldExponents", fn := fun _ => fun
  | [d1, d2, d3] => { results := [.lit (.bool false)], args := [d1, d2, d3] }
  | _ => none }
def FieldExponentsWrongFalsely : Prop := fieldExponentsRow.holds Try.pinned (OpenSpec.ofChange fieldExponentsWrong)

/-- 'aditlaw01.FieldPowers': WHATEVER THE INPUT: true; the input reads as it did. -/
def fieldPowersSpec : ChangeSpec := { name := "fieldPowers", fn := fun _ => fun
  | [d1, d2] => { results := [.lit (.bool true)], args := [d1, d2] }
  | _ => none }
def fieldPowersRow : OpenClaim := { program := "ytnbdeajjfhlmnaa", sum := "eef70ea3b975ec8d11bc23de1bfa63b9a20945a8442dead7c938b8d07ec7e1e8", func := "adit/aditlaw01.FieldPowers", spec := "fieldPowers", inPlace := ["math/bits.Add64"], apart := false }
def FieldPowersSaid : Prop := fieldPowersRow.holds Try.pinned (OpenSpec.ofChange fieldPowersSpec)

/-- ITS FALSE NEIGHBOUR: 'it returns false'. Refute it at one input. -/
def fieldPowersWrong : ChangeSpec := { name := "fieldPowers", fn := fun _ => fun
  | [d1, d2] => { results := [.lit (.bool false)], args := [d1, d2] }
  | _ => none }
def FieldPowersWrongFalsely : Prop := fieldPowersRow.holds Try.pinned (OpenSpec.ofChange fieldPowersWrong)

/-- 'aditlaw01.FieldInverse': WHATEVER THE INPUT: true; the input reads as it did. -/
def fieldInverseSpec : ChangeSpec := { name := "fieldInverse", fn := fun _ => fun
  | [d1, d2] => { results := [.lit (.bool true)], args := [d1, d2] }
  | _ => none }
def fieldInverseRow : OpenClaim := { program := "ytnbdeajjfhlmnaa", sum := "eef70ea3b975ec8d11bc23de1bfa63b9a20945a8442dead7c938b8d07ec7e1e8", func := "adit/aditlaw01.FieldInverse", spec := "fieldInverse", inPlace := ["math/bits.Add64"], apart := false }
def FieldInverseSaid : Prop := fieldInverseRow.holds Try.pinned (OpenSpec.ofChange fieldInverseSpec)

/-- ITS FALSE NEIGHBOUR: 'it returns false'. Refute it at one input. -/
def fieldInverseWrong : ChangeSpec := { name := "fieldInverse", fn := fun _ => fun
  | [d1, d2] => { results := [.lit (.bool false)], args := [d1, d2] }
  | _ => none }
def FieldInverseWrongFalsely : Prop := fieldInverseRow.holds Try.pinned (OpenSpec.ofChange fieldInverseWrong)

/-- 'aditlaw02.CurveTurns': WHATEVER THE INPUT: true; the input reads as it did. -/
def curveTurnsSpec : ChangeSpec := { name := "curveTurns", fn := fun _ => fun
  | [d1, d2, d3] => { results := [.lit (.bool true)], args := [d1, d2, d3] }
  | _ => none }
def curveTurnsRow : OpenClaim := { program := "ytnbdeajjfhlmnaa", sum := "eef70ea3b975ec8d11bc23de1bfa63b9a20945a8442dead7c938b8d07ec7e1e8", func := "adit/aditlaw02.CurveTurns", spec := "curveTurns", inPlace := ["math/bits.Add64"], apart := false }
def CurveTurnsSaid : Prop := curveTurnsRow.holds Try.pinned (OpenSpec.ofChange curveTurnsSpec)

/-- ITS FALSE NEIGHBOUR: 'it returns false'. Refute it at one input. -/
def curveTurnsWrong : ChangeSpec := { name := "curveTurns", fn := fun _ => fun
  | [d1, d2, d3] => { results := [.lit (.bool false)], args := [d1, d2, d3] }
  | _ => none }
def CurveTurnsWrongFalsely : Prop := curveTurnsRow.holds Try.pinned (OpenSpec.ofChange curveTurnsWrong)

/-- 'aditlaw02.CurveLoose': WHATEVER THE INPUT: true; the input reads as it did. -/
def curveLooseSpec : ChangeSpec := { name := "curveLoose", fn := fun _ => fun
  | [d1, d2, d3] => { results := [.lit (.bool true)], args := [d1, d2, d3] }
  | _ => none }
def curveLooseRow : OpenClaim := { program := "ytnbdeajjfhlmnaa", sum := "eef70ea3b975ec8d11bc23de1bfa63b9a20945a8442dead7c938b8d07ec7e1e8", func := "adit/aditlaw02.CurveLoose", spec := "curveLoose", inPlace := ["math/bits.Add64"], apart := false }
def CurveLooseSaid : Prop := curveLooseRow.holds Try.pinned (OpenSpec.ofChange curveLooseSpec)

/-- ITS FALSE NEIGHBOUR: 'it returns false'. Refute it at one input. -/
def curveLooseWrong : ChangeSpec := { name := "curveLoose", fn := fun _ => fun
  | [d1, d2, d3] => { results := [.lit (.bool false)], args := [d1, d2, d3] }
  | _ => none }
def CurveLooseWrongFalsely : Prop := curveLooseRow.holds Try.pinned (OpenSpec.ofChange curveLooseWrong)

/-- 'aditlaw02.CurveTimes': WHATEVER THE INPUT: true; the input reads as it did. -/
def curveTimesSpec : ChangeSpec := { name := "curveTimes", fn := fun _ => fun
  | [d1, d2] => { results := [.lit (.bool true)], args := [d1, d2] }
  | _ => none }
def curveTimesRow : OpenClaim := { program := "ytnbdeajjfhlmnaa", sum := "eef70ea3b975ec8d11bc23de1bfa63b9a20945a8442dead7c938b8d07ec7e1e8", func := "adit/aditlaw02.CurveTimes", spec := "curveTimes", inPlace := ["math/bits.Add64"], apart := false }
def CurveTimesSaid : Prop := curveTimesRow.holds Try.pinned (OpenSpec.ofChange curveTimesSpec)

/-- ITS FALSE NEIGHBOUR: 'it returns false'. Refute it at one input. -/
def curveTimesWrong : ChangeSpec := { name := "curveTimes", fn := fun _ => fun
  | [d1, d2] => { results := [.lit (.bool false)], args := [d1, d2] }
  | _ => none }
def CurveTimesWrongFalsely : Prop := curveTimesRow.holds Try.pinned (OpenSpec.ofChange curveTimesWrong)

/-- 'aditlaw02.CurveMeets': WHATEVER THE INPUT: true; the input reads as it did. -/
def curveMeetsSpec : ChangeSpec := { name := "curveMeets", fn := fun _ => fun
  | [d1, d2] => { results := [.lit (.bool true)], args := [d1, d2] }
  | _ => none }
def curveMeetsRow : OpenClaim := { program := "ytnbdeajjfhlmnaa", sum := "eef70ea3b975ec8d11bc23de1bfa63b9a20945a8442dead7c938b8d07ec7e1e8", func := "adit/aditlaw02.CurveMeets", spec := "curveMeets", inPlace := ["math/bits.Add64"], apart := false }
def CurveMeetsSaid : Prop := curveMeetsRow.holds Try.pinned (OpenSpec.ofChange curveMeetsSpec)

/-- ITS FALSE NEIGHBOUR: 'it returns false'. Refute it at one input. -/
def curveMeetsWrong : ChangeSpec := { name := "curveMeets", fn := fun _ => fun
  | [d1, d2] => { results := [.lit (.bool false)], args := [d1, d2] }
  | _ => none }
def CurveMeetsWrongFalsely : Prop := curveMeetsRow.holds Try.pinned (OpenSpec.ofChange curveMeetsWrong)

/- THE SECOND FORM. 'bulk': how many values and letters a reading holds, each counted each time it is reached (what is shared counts as often as it is met; a slice's spare places count too). A statement '..UptoSaid' is the law's where the arguments, and the package variables that the reading takes, are together of bulk at most 1048576: NARROWER than '..Said'. Prove '..Said' where nothing that the law and all that it calls make is longer than what came in: it says more and counts as full. Else prove '..UptoSaid'. A law counts once. -/
mutual
def uptoBulk {H : Type} : DataW H → Nat
  | .lit (.string bytes) => bytes.length + 1
  | .lit _ => 1
  | .nil => 1
  | .ptr d => uptoBulk d + 1
  | .slice elems spare => uptoBulkAll elems + uptoBulkAll spare + 1
  | .agg parts => uptoBulkAll parts + 1
  | .iface _ d => uptoBulk d + 1
  | .map entries => uptoBulkEntries entries + 1
  | .held _ => 1
def uptoBulkAll {H : Type} : List (DataW H) → Nat
  | [] => 0
  | d :: r => uptoBulk d + uptoBulkAll r
def uptoBulkEntries {H : Type} : List (Lit × DataW H) → Nat
  | [] => 0
  | x :: r => uptoBulkEntry x + uptoBulkEntries r
def uptoBulkEntry {H : Type} : Lit × DataW H → Nat
  | (.string bytes, d) => bytes.length + uptoBulk d + 1
  | (_, d) => uptoBulk d + 1
 end
def uptoSmall : (H : Type) → List (DataW H) → Bool := fun _ ds => decide (uptoBulkAll ds ≤ 1048576)
def OpenSpec.upto (s : _root_.Go.ChangeSpec) : _root_.Go.OpenSpec := { _root_.Go.OpenSpec.ofChange s with cond := some uptoSmall }

/-- 'aditlaw01.FieldSums', WHERE WHAT IT READS IS OF BULK AT MOST 1048576: true; the input reads as it did. -/
def fieldSumsUptoRow : OpenClaim := { program := "ytnbdeajjfhlmnaa", sum := "eef70ea3b975ec8d11bc23de1bfa63b9a20945a8442dead7c938b8d07ec7e1e8", func := "adit/aditlaw01.FieldSums", spec := "fieldSums", inPlace := ["math/bits.Add64"], apart := false, narrowed := true }
def FieldSumsUptoSaid : Prop := fieldSumsUptoRow.holds Try.pinned (OpenSpec.upto fieldSumsSpec)

/-- 'aditlaw01.FieldOf', WHERE WHAT IT READS IS OF BULK AT MOST 1048576: true; the input reads as it did. -/
def fieldOfUptoRow : OpenClaim := { program := "ytnbdeajjfhlmnaa", sum := "eef70ea3b975ec8d11bc23de1bfa63b9a20945a8442dead7c938b8d07ec7e1e8", func := "adit/aditlaw01.FieldOf", spec := "fieldOf", inPlace := ["math/bits.Add64"], recurses := true, apart := false, narrowed := true }
def FieldOfUptoSaid : Prop := fieldOfUptoRow.holds Try.pinned (OpenSpec.upto fieldOfSpec)

/-- 'aditlaw01.FieldTwo', WHERE WHAT IT READS IS OF BULK AT MOST 1048576: true; the input reads as it did. -/
def fieldTwoUptoRow : OpenClaim := { program := "ytnbdeajjfhlmnaa", sum := "eef70ea3b975ec8d11bc23de1bfa63b9a20945a8442dead7c938b8d07ec7e1e8", func := "adit/aditlaw01.FieldTwo", spec := "fieldTwo", inPlace := ["math/bits.Add64"], apart := false, narrowed := true }
def FieldTwoUptoSaid : Prop := fieldTwoUptoRow.holds Try.pinned (OpenSpec.upto fieldTwoSpec)

/-- 'aditlaw01.FieldRules', WHERE WHAT IT READS IS OF BULK AT MOST 1048576: true; the input reads as it did. -/
def fieldRulesUptoRow : OpenClaim := { program := "ytnbdeajjfhlmnaa", sum := "eef70ea3b975ec8d11bc23de1bfa63b9a20945a8442dead7c938b8d07ec7e1e8", func := "adit/aditlaw01.FieldRules", spec := "fieldRules", inPlace := ["math/bits.Add64"], apart := false, narrowed := true }
def FieldRulesUptoSaid : Prop := fieldRulesUptoRow.holds Try.pinned (OpenSpec.upto fieldRulesSpec)

/-- 'aditlaw01.FieldExponents', WHERE WHAT IT READS IS OF BULK AT MOST 1048576: true; the input reads as it did. -/
def fieldExponentsUptoRow : OpenClaim := { program := "ytnbdeajjfhlmnaa", sum := "eef70ea3b975ec8d11bc23de1bfa63b9a20945a8442dead7c938b8d07ec7e1e8", func := "adit/aditlaw01.FieldExponents", spec := "fieldExponents", inPlace := ["math/bits.Add64"], apart := false, narrowed := true }
def FieldExponentsUptoSaid : Prop := fieldExponentsUptoRow.holds Try.pinned (OpenSpec.upto fieldExponentsSpec)

/-- 'aditlaw01.FieldPowers', WHERE WHAT IT READS IS OF BULK AT MOST 1048576: true; the input reads as it did. -/
def fieldPowersUptoRow : OpenClaim := { program := "ytnbdeajjfhlmnaa", sum := "eef70ea3b975ec8d11bc23de1bfa63b9a20945a8442dead7c938b8d07ec7e1e8", func := "adit/aditlaw01.FieldPowers", spec := "fieldPowers", inPlace := ["math/bits.Add64"], apart := false, narrowed := true }
def FieldPowersUptoSaid : Prop := fieldPowersUptoRow.holds Try.pinned (OpenSpec.upto fieldPowersSpec)

/-- 'aditlaw01.FieldInverse', WHERE WHAT IT READS IS OF BULK AT MOST 1048576: true; the input reads as it did. -/
def fieldInverseUptoRow : OpenClaim := { program := "ytnbdeajjfhlmnaa", sum := "eef70ea3b975ec8d11bc23de1bfa63b9a20945a8442dead7c938b8d07ec7e1e8", func := "adit/aditlaw01.FieldInverse", spec := "fieldInverse", inPlace := ["math/bits.Add64"], apart := false, narrowed := true }
def FieldInverseUptoSaid : Prop := fieldInverseUptoRow.holds Try.pinned (OpenSpec.upto fieldInverseSpec)

/-- 'aditlaw02.CurveTurns', WHERE WHAT IT READS IS OF BULK AT MOST 1048576: true; the input reads as it did. -/
def curveTurnsUptoRow : OpenClaim := { program := "ytnbdeajjfhlmnaa", sum := "eef70ea3b975ec8d11bc23de1bfa63b9a20945a8442dead7c938b8d07ec7e1e8", func := "adit/aditlaw02.CurveTurns", spec := "curveTurns", inPlace := ["math/bits.Add64"], apart := false, narrowed := true }
def CurveTurnsUptoSaid : Prop := curveTurnsUptoRow.holds Try.pinned (OpenSpec.upto curveTurnsSpec)

/-- 'aditlaw02.CurveLoose', WHERE WHAT IT READS IS OF BULK AT MOST 1048576: true; the input reads as it did. -/
def curveLooseUptoRow : OpenClaim := { program := "ytnbdeajjfhlmnaa", sum := "eef70ea3b975ec8d11bc23de1bfa63b9a20945a8442dead7c938b8d07ec7e1e8", func := "adit/aditlaw02.CurveLoose", spec := "curveLoose", inPlace := ["math/bits.Add64"], apart := false, narrowed := true }
def CurveLooseUptoSaid : Prop := curveLooseUptoRow.holds Try.pinned (OpenSpec.upto curveLooseSpec)

/-- 'aditlaw02.CurveTimes', WHERE WHAT IT READS IS OF BULK AT MOST 1048576: true; the input reads as it did. -/
def curveTimesUptoRow : OpenClaim := { program := "ytnbdeajjfhlmnaa", sum := "eef70ea3b975ec8d11bc23de1bfa63b9a20945a8442dead7c938b8d07ec7e1e8", func := "adit/aditlaw02.CurveTimes", spec := "curveTimes", inPlace := ["math/bits.Add64"], apart := false, narrowed := true }
def CurveTimesUptoSaid : Prop := curveTimesUptoRow.holds Try.pinned (OpenSpec.upto curveTimesSpec)

/-- 'aditlaw02.CurveMeets', WHERE WHAT IT READS IS OF BULK AT MOST 1048576: true; the input reads as it did. -/
def curveMeetsUptoRow : OpenClaim := { program := "ytnbdeajjfhlmnaa", sum := "eef70ea3b975ec8d11bc23de1bfa63b9a20945a8442dead7c938b8d07ec7e1e8", func := "adit/aditlaw02.CurveMeets", spec := "curveMeets", inPlace := ["math/bits.Add64"], apart := false, narrowed := true }
def CurveMeetsUptoSaid : Prop := curveMeetsUptoRow.holds Try.pinned (OpenSpec.upto curveMeetsSpec)

end Rows
end Go.Proofs.Ytnbdeajjfhlmnaa
