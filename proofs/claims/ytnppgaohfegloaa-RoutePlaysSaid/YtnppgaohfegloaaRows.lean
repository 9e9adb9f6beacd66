/-
  No cell of these rows narrows 'for every input' (looked for: loops, veiled, ifaces, maps, wideKeys, modest, calm, conditions, laid).
  DERIVED. THE GIVEN ROWS OF THIS SEAT. 5 by the template 'for every input the law returns true; each argument reads behind the call as it read before'; 0 by the template 'total and deterministic' (their statements: YtnppgaohfegloaaTotals.lean).
  GIVEN WITH THE SEED: the statements are not yours to turn. If you find one false, say at which input.
  Laid BY PROGRAM, IN A SANDBOX (cutbox-rows.mjs): the forced cells as the released guide's own fill.sh prints them over the translation ead53a83a74df5af… (all of the seat's roots in one cut). By AI agents, Wed Nov 11 2026. No macro, syntax, notation, axiom, sorry.
-/
import Derived.Test.YtnppgaohfegloaaChecked
import GoSem.Claim
import GoSem.ClaimJoined
import GoSem.ClaimMapViews
import Derived.JoinedTies
import Derived.KernelRfl
namespace Go.Proofs.Ytnppgaohfegloaa
/- THE CELL 'sum', in the pinned program and in every row, IS THE sha256 OF THE DUMP (.gsa) THAT YtnppgaohfegloaaProg.lean LOADS. Nothing in Lean hashes anything: it is a label: what it is worth is what the hold of that sum in a sandbox is worth. -/
noncomputable def Try.pinned : Pinned := { name := "ytnppgaohfegloaa", sum := "ead53a83a74df5af9ca04163bd65e627e487a1fb8beb10683b14d37c2ad91a9e", checked := Try.checked }
namespace Rows
def none {H : Type} : Left H := { results := [], args := [] }

/-- 'aditlaw10.RouteFull': WHATEVER THE INPUT: true; the input reads as it did. -/
def routeFullSpec : ChangeSpec := { name := "routeFull", fn := fun _ => fun
  | [d1, d2] => { results := [.lit (.bool true)], args := [d1, d2] }
  | _ => none }
def routeFullRow : OpenClaim := { program := "ytnppgaohfegloaa", sum := "ead53a83a74df5af9ca04163bd65e627e487a1fb8beb10683b14d37c2ad91a9e", func := "adit/aditlaw10.RouteFull", spec := "routeFull", apart := false }
def RouteFullSaid : Prop := routeFullRow.holds Try.pinned (OpenSpec.ofChange routeFullSpec)

/-- ITS FALSE NEIGHBOUR: 'it returns false'. Refute it at one input. -/
def routeFullWrong : ChangeSpec := { name := "routeFull", fn := fun _ => fun
  | [d1, d2] => { results := [.lit (.bool false)], args := [d1, d2] }
  | _ => none }
def RouteFullWrongFalsely : Prop := routeFullRow.holds Try.pinned (OpenSpec.ofChange routeFullWrong)

/-- 'aditlaw10.RouteHalves': WHATEVER THE INPUT: true; the input reads as it did. -/
def routeHalvesSpec : ChangeSpec := { name := "routeHalves", fn := fun _ => fun
  | [d1, d2, d3] => { results := [.lit (.bool true)], args := [d1, d2, d3] }
  | _ => none }
def routeHalvesRow : OpenClaim := { program := "ytnppgaohfegloaa", sum := "ead53a83a74df5af9ca04163bd65e627e487a1fb8beb10683b14d37c2ad91a9e", func := "adit/aditlaw10.RouteHalves", spec := "routeHalves", apart := false }
def RouteHalvesSaid : Prop := routeHalvesRow.holds Try.pinned (OpenSpec.ofChange routeHalvesSpec)

/-- ITS FALSE NEIGHBOUR: 'it returns false'. Refute it at one input. -/
def routeHalvesWrong : ChangeSpec := { name := "routeHalves", fn := fun _ => fun
  | [d1, d2, d3] => { results := [.lit (.bool false)], args := [d1, d2, d3] }
  | _ => none }
def RouteHalvesWrongFalsely : Prop := routeHalvesRow.holds Try.pinned (OpenSpec.ofChange routeHalvesWrong)

/-- 'aditlaw10.RouteOrder': WHATEVER THE INPUT: true; the input reads as it did. -/
def routeOrderSpec : ChangeSpec := { name := "routeOrder", fn := fun _ => fun
  | [d1, d2] => { results := [.lit (.bool true)], args := [d1, d2] }
  | _ => none }
def routeOrderRow : OpenClaim := { program := "ytnppgaohfegloaa", sum := "ead53a83a74df5af9ca04163bd65e627e487a1fb8beb10683b14d37c2ad91a9e", func := "adit/aditlaw10.RouteOrder", spec := "routeOrder", apart := false }
def RouteOrderSaid : Prop := routeOrderRow.holds Try.pinned (OpenSpec.ofChange routeOrderSpec)

/-- ITS FALSE NEIGHBOUR: 'it returns false'. Refute it at one input. -/
def routeOrderWrong : ChangeSpec := { name := "routeOrder", fn := fun _ => fun
  | [d1, d2] => { results := [.lit (.bool false)], args := [d1, d2] }
  | _ => none }
def RouteOrderWrongFalsely : Prop := routeOrderRow.holds Try.pinned (OpenSpec.ofChange routeOrderWrong)

/-- 'aditlaw10.RoutePlays': WHATEVER THE INPUT: true; the input reads as it did. -/
def routePlaysSpec : ChangeSpec := { name := "routePlays", fn := fun _ => fun
  | [d] => { results := [.lit (.bool true)], args := [d] }
  | _ => none }
def routePlaysRow : OpenClaim := { program := "ytnppgaohfegloaa", sum := "ead53a83a74df5af9ca04163bd65e627e487a1fb8beb10683b14d37c2ad91a9e", func := "adit/aditlaw10.RoutePlays", spec := "routePlays", unfollowed := true, recurses := true, apart := false }
def RoutePlaysSaid : Prop := routePlaysRow.holds Try.pinned (OpenSpec.ofChange routePlaysSpec)

/-- ITS FALSE NEIGHBOUR: 'it returns false'. Refute it at one input. -/
def routePlaysWrong : ChangeSpec := { name := "routePlays", fn := fun _ => fun
  | [d] => { results := [.lit (.bool false)], args := [d] }
  | _ => none }
def RoutePlaysWrongFalsely : Prop := routePlaysRow.holds Try.pinned (OpenSpec.ofChange routePlaysWrong)

/-- 'aditlaw10.RouteNil': WHATEVER THE INPUT: true; the input reads as it did. -/
def routeNilSpec : ChangeSpec := { name := "routeNil", fn := fun _ => fun
  | [d] => { results := [.lit (.bool true)], args := [d] }
  | _ => none }
def routeNilRow : OpenClaim := { program := "ytnppgaohfegloaa", sum := "ead53a83a74df5af9ca04163bd65e627e487a1fb8beb10683b14d37c2ad91a9e", func := "adit/aditlaw10.RouteNil", spec := "routeNil", unfollowed := true, recurses := true, apart := false }
def RouteNilSaid : Prop := routeNilRow.holds Try.pinned (OpenSpec.ofChange routeNilSpec)

/-- ITS FALSE NEIGHBOUR: 'it returns false'. Refute it at one input. -/
def routeNilWrong : ChangeSpec := { name := "routeNil", fn := fun _ => fun
  | [d] => { results := [.lit (.bool false)], args := [d] }
  | _ => none }
def RouteNilWrongFalsely : Prop := routeNilRow.holds Try.pinned (OpenSpec.ofChange routeNilWrong)

/- THE SECOND FORM. 'bulk': how many values and letters a reading holds, each counted each time it is reached (what is shared counts as often as it is met; a slice's spare places count too). A statement '..UptoSaid' is the law's where the arguments, and the package variables that the reading takes, are together of bulk at most 1048576: NARROWER than '..Said'. Prove '..Said' where nothing that the law and all that it calls make is longer than what came in: it says more and counts as full. Else prove '..UptoSaid'. A law counts once. -/
mutual
def uptoBulk {H : Type} : DataW H → Nat
  | .lit (.string bytes) => bytes.length + 1
  | .lit _ => 1
  | .nil => 1
  | .ptr d => uptoBulk d + 1
  | .slice elems spare => uptoBulkAll elems + uptoBulkAll spare + 1
  | .agg parts => uptoBulkAll parts + 1
  | .iface _ d => uptoBulk d + 1
  | .map entries => uptoBulkEntries entries + 1
  | .held _ => 1
def uptoBulkAll {H : Type} : List (DataW H) → Nat
  | [] => 0
  | d :: r => uptoBulk d + uptoBulkAll r
def uptoBulkEntries {H : Type} : List (Lit × DataW H) → Nat
  | [] => 0
  | x :: r => uptoBulkEntry x + uptoBulkEntries r
def uptoBulkEntry {H : Type} : Lit × DataW H → Nat
  | (.string bytes, d) => bytes.length + uptoBulk d + 1
  | (_, d) => uptoBulk d + 1
 end
def uptoSmall : (H : Type) → List (DataW H) → Bool := fun _ ds => decide (uptoBulkAll ds ≤ 1048576)
def OpenSpec.upto (s : _root_.Go.ChangeSpec) : _root_.Go.OpenSpec := { _root_.Go.OpenSpec.ofChange s with cond := some uptoSmall }

/-- 'aditlaw10.RouteFull', WHERE WHAT IT READS IS OF BULK AT MOST 1048576: true; the input reads as it did. -/
def routeFullUptoRow : OpenClaim := { program := "ytnppgaohfegloaa", sum := "ead53a83a74df5af9ca04163bd65e627e487a1fb8beb10683b14d37c2ad91a9e", func := "adit/aditlaw10.RouteFull", spec := "routeFull", apart := false, narrowed := true }
def RouteFullUptoSaid : Prop := routeFullUptoRow.holds Try.pinned (OpenSpec.upto routeFullSpec)

/-- 'aditlaw10.RouteHalves', WHERE WHAT IT READS IS OF BULK AT MOST 1048576: true; the input reads as it did. -/
def routeHalvesUptoRow : OpenClaim := { program := "ytnppgaohfegloaa", sum := "ead53a83a74df5af9ca04163bd65e627e487a1fb8beb10683b14d37c2ad91a9e", func := "adit/aditlaw10.RouteHalves", spec := "routeHalves", apart := false, narrowed := true }
def RouteHalvesUptoSaid : Prop := routeHalvesUptoRow.holds Try.pinned (OpenSpec.upto routeHalvesSpec)

/-- 'aditlaw10.RouteOrder', WHERE WHAT IT READS IS OF BULK AT MOST 1048576: true; the input reads as it did. -/
def routeOrderUptoRow : OpenClaim := { program := "ytnppgaohfegloaa", sum := "ead53a83a74df5af9ca04163bd65e627e487a1fb8beb10683b14d37c2ad91a9e", func := "adit/aditlaw10.RouteOrder", spec := "routeOrder", apart := false, narrowed := true }
def RouteOrderUptoSaid : Prop := routeOrderUptoRow.holds Try.pinned (OpenSpec.upto routeOrderSpec)

/-- 'aditlaw10.RoutePlays', WHERE WHAT IT READS IS OF BULK AT MOST 1048576: true; the input reads as it did. -/
def routePlaysUptoRow : OpenClaim := { program := "ytnppgaohfegloaa", sum := "ead53a83a74df5af9ca04163bd65e627e487a1fb8beb10683b14d37c2ad91a9e", func := "adit/aditlaw10.RoutePlays", spec := "routePlays", unfollowed := true, recurses := true, apart := false, narrowed := true }
def RoutePlaysUptoSaid : Prop := routePlaysUptoRow.holds Try.pinned (OpenSpec.upto routePlaysSpec)

/-- 'aditlaw10.RouteNil', WHERE WHAT IT READS IS OF BULK AT MOST 1048576: true; the input reads as it did. -/
def routeNilUptoRow : OpenClaim := { program := "ytnppgaohfegloaa", sum := "ead53a83a74df5af9ca04163bd65e627e487a1fb8beb10683b14d37c2ad91a9e", func := "adit/aditlaw10.RouteNil", spec := "routeNil", unfollowed := true, recurses := true, apart := false, narrowed := true }
def RouteNilUptoSaid : Prop := routeNilUptoRow.holds Try.pinned (OpenSpec.upto routeNilSpec)

end Rows
end Go.Proofs.Ytnppgaohfegloaa
