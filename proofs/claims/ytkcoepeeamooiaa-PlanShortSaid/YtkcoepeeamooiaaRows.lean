/-
  No cell of these rows narrows 'for every input' (looked for: loops, veiled, ifaces, maps, wideKeys, modest, calm, conditions, laid).
  DERIVED. THE GIVEN ROWS OF THIS SEAT. 7 by the template 'for every input the law returns true; each argument reads behind the call as it read before'; 0 by the template 'total and deterministic' (their statements: YtkcoepeeamooiaaTotals.lean).
  GIVEN WITH THE SEED: the statements are not yours to turn. If you find one false, say at which input.
  Laid BY PROGRAM, IN A SANDBOX (cutbox-rows.mjs): the forced cells as the released guide's own fill.sh prints them over the translation 8ccaf9f1744b806c… (all of the seat's roots in one cut). By AI agents, Wed Nov 11 2026. No macro, syntax, notation, axiom, sorry.
-/
import Derived.Test.YtkcoepeeamooiaaChecked
import GoSem.Claim
import GoSem.ClaimJoined
import GoSem.ClaimMapViews
import Derived.JoinedTies
import Derived.KernelRfl
namespace Go.Proofs.Ytkcoepeeamooiaa
/- THE CELL 'sum', in the pinned program and in every row, IS THE sha256 OF THE DUMP (.gsa) THAT YtkcoepeeamooiaaProg.lean LOADS. Nothing in Lean hashes anything: it is a label: what it is worth is what the hold of that sum in a sandbox is worth. -/
noncomputable def Try.pinned : Pinned := { name := "ytkcoepeeamooiaa", sum := "8ccaf9f1744b806cf71d4ee11cb84caec7dd068ea4c877f692b4a5f63068b8ec", checked := Try.checked }
namespace Rows
def none {H : Type} : Left H := { results := [], args := [] }

/-- 'locumlaw04.PlanPuts': WHATEVER THE INPUT: true; the input reads as it did. -/
def planPutsSpec : ChangeSpec := { name := "planPuts", fn := fun _ => fun
  | [d] => { results := [.lit (.bool true)], args := [d] }
  | _ => none }
def planPutsRow : OpenClaim := { program := "ytkcoepeeamooiaa", sum := "8ccaf9f1744b806cf71d4ee11cb84caec7dd068ea4c877f692b4a5f63068b8ec", func := "locum/locumlaw04.PlanPuts", spec := "planPuts", unfollowed := true, recurses := true, apart := false }
def PlanPutsSaid : Prop := planPutsRow.holds Try.pinned (OpenSpec.ofChange planPutsSpec)

/-- ITS FALSE NEIGHBOUR: 'it returns false'. Refute it at one input. -/
def planPutsWrong : ChangeSpec := { name := "planPuts", fn := fun _ => fun
  | [d] => { results := [.lit (.bool false)], args := [d] }
  | _ => none }
def PlanPutsWrongFalsely : Prop := planPutsRow.holds Try.pinned (OpenSpec.ofChange planPutsWrong)

/-- 'locumlaw04.PlanGets': WHATEVER THE INPUT: true; the input reads as it did. -/
def planGetsSpec : ChangeSpec := { name := "planGets", fn := fun _ => fun
  | [d] => { results := [.lit (.bool true)], args := [d] }
  | _ => none }
def planGetsRow : OpenClaim := { program := "ytkcoepeeamooiaa", sum := "8ccaf9f1744b806cf71d4ee11cb84caec7dd068ea4c877f692b4a5f63068b8ec", func := "locum/locumlaw04.PlanGets", spec := "planGets", unfollowed := true, recurses := true, apart := false }
def PlanGetsSaid : Prop := planGetsRow.holds Try.pinned (OpenSpec.ofChange planGetsSpec)

/-- ITS FALSE NEIGHBOUR: 'it returns false'. Refute it at one input. -/
def planGetsWrong : ChangeSpec := { name := "planGets", fn := fun _ => fun
  | [d] => { results := [.lit (.bool false)], args := [d] }
  | _ => none }
def PlanGetsWrongFalsely : Prop := planGetsRow.holds Try.pinned (OpenSpec.ofChange planGetsWrong)

/-- 'locumlaw04.PlanNames': WHATEVER THE INPUT: true; the input reads as it did. -/
def planNamesSpec : ChangeSpec := { name := "planNames", fn := fun _ => fun
  | [d1, d2, d3] => { results := [.lit (.bool true)], args := [d1, d2, d3] }
  | _ => none }
def planNamesRow : OpenClaim := { program := "ytkcoepeeamooiaa", sum := "8ccaf9f1744b806cf71d4ee11cb84caec7dd068ea4c877f692b4a5f63068b8ec", func := "locum/locumlaw04.PlanNames", spec := "planNames", unfollowed := true, recurses := true, apart := false }
def PlanNamesSaid : Prop := planNamesRow.holds Try.pinned (OpenSpec.ofChange planNamesSpec)

/-- ITS FALSE NEIGHBOUR: 'it returns false'. Refute it at one input. -/
def planNamesWrong : ChangeSpec := { name := "planNames", fn := fun _ => fun
  | [d1, d2, d3] => { results := [.lit (.bool false)], args := [d1, d2, d3] }
  | _ => none }
def PlanNamesWrongFalsely : Prop := planNamesRow.holds Try.pinned (OpenSpec.ofChange planNamesWrong)

/-- 'locumlaw04.PlanBack': WHATEVER THE INPUT: true; the input reads as it did. -/
def planBackSpec : ChangeSpec := { name := "planBack", fn := fun _ => fun
  | [d1, d2, d3] => { results := [.lit (.bool true)], args := [d1, d2, d3] }
  | _ => none }
def planBackRow : OpenClaim := { program := "ytkcoepeeamooiaa", sum := "8ccaf9f1744b806cf71d4ee11cb84caec7dd068ea4c877f692b4a5f63068b8ec", func := "locum/locumlaw04.PlanBack", spec := "planBack", unfollowed := true, recurses := true, apart := false }
def PlanBackSaid : Prop := planBackRow.holds Try.pinned (OpenSpec.ofChange planBackSpec)

/-- ITS FALSE NEIGHBOUR: 'it returns false'. Refute it at one input. -/
def planBackWrong : ChangeSpec := { name := "planBack", fn := fun _ => fun
  | [d1, d2, d3] => { results := [.lit (.bool false)], args := [d1, d2, d3] }
  | _ => none }
def PlanBackWrongFalsely : Prop := planBackRow.holds Try.pinned (OpenSpec.ofChange planBackWrong)

/-- 'locumlaw04.PlanFew': WHATEVER THE INPUT: true; the input reads as it did. -/
def planFewSpec : ChangeSpec := { name := "planFew", fn := fun _ => fun
  | [d] => { results := [.lit (.bool true)], args := [d] }
  | _ => none }
def planFewRow : OpenClaim := { program := "ytkcoepeeamooiaa", sum := "8ccaf9f1744b806cf71d4ee11cb84caec7dd068ea4c877f692b4a5f63068b8ec", func := "locum/locumlaw04.PlanFew", spec := "planFew", unfollowed := true, recurses := true, apart := false }
def PlanFewSaid : Prop := planFewRow.holds Try.pinned (OpenSpec.ofChange planFewSpec)

/-- ITS FALSE NEIGHBOUR: 'it returns false'. Refute it at one input. -/
def planFewWrong : ChangeSpec := { name := "planFew", fn := fun _ => fun
  | [d] => { results := [.lit (.bool false)], args := [d] }
  | _ => none }
def PlanFewWrongFalsely : Prop := planFewRow.holds Try.pinned (OpenSpec.ofChange planFewWrong)

/-- 'locumlaw04.PlanShort': WHATEVER THE INPUT: true; the input reads as it did. -/
def planShortSpec : ChangeSpec := { name := "planShort", fn := fun _ => fun
  | [d1, d2, d3] => { results := [.lit (.bool true)], args := [d1, d2, d3] }
  | _ => none }
def planShortRow : OpenClaim := { program := "ytkcoepeeamooiaa", sum := "8ccaf9f1744b806cf71d4ee11cb84caec7dd068ea4c877f692b4a5f63068b8ec", func := "locum/locumlaw04.PlanShort", spec := "planShort", unfollowed := true, recurses := true, apart := false }
def PlanShortSaid : Prop := planShortRow.holds Try.pinned (OpenSpec.ofChange planShortSpec)

/-- ITS FALSE NEIGHBOUR: 'it returns false'. Refute it at one input. -/
def planShortWrong : ChangeSpec := { name := "planShort", fn := fun _ => fun
  | [d1, d2, d3] => { results := [.lit (.bool false)], args := [d1, d2, d3] }
  | _ => none }
def PlanShortWrongFalsely : Prop := planShortRow.holds Try.pinned (OpenSpec.ofChange planShortWrong)

/-- 'locumlaw04.PlanPercent': WHATEVER THE INPUT: true; the input reads as it did. -/
def planPercentSpec : ChangeSpec := { name := "planPercent", fn := fun _ => fun
  | [d1, d2, d3, d4] => { results := [.lit (.bool true)], args := [d1, d2, d3, d4] }
  | _ => none }
def planPercentRow : OpenClaim := { program := "ytkcoepeeamooiaa", sum := "8ccaf9f1744b806cf71d4ee11cb84caec7dd068ea4c877f692b4a5f63068b8ec", func := "locum/locumlaw04.PlanPercent", spec := "planPercent", unfollowed := true, recurses := true, apart := false }
def PlanPercentSaid : Prop := planPercentRow.holds Try.pinned (OpenSpec.ofChange planPercentSpec)

/-- ITS FALSE NEIGHBOUR: 'it returns false'. Refute it at one input. -/
def planPercentWrong : ChangeSpec := { name := "planPercent", fn := fun _ => fun
  | [d1, d2, d3, d4] => { results := [.lit (.bool false)], args := [d1, d2, d3, d4] }
  | _ => none }
def PlanPercentWrongFalsely : Prop := planPercentRow.holds Try.pinned (OpenSpec.ofChange planPercentWrong)

/- THE SECOND FORM. 'bulk': how many values and letters a reading holds, each counted each time it is reached (what is shared counts as often as it is met; a slice's spare places count too). A statement '..UptoSaid' is the law's where the arguments, and the package variables that the reading takes, are together of bulk at most 1048576: NARROWER than '..Said'. Prove '..Said' where nothing that the law and all that it calls make is longer than what came in: it says more and counts as full. Else prove '..UptoSaid'. A law counts once. -/
mutual
def uptoBulk {H : Type} : DataW H → Nat
  | .lit (.string bytes) => bytes.length + 1
  | .lit _ => 1
  | .nil => 1
  | .ptr d => uptoBulk d + 1
  | .slice elems spare => uptoBulkAll elems + uptoBulkAll spare + 1
  | .agg parts => uptoBulkAll parts + 1
  | .iface _ d => uptoBulk d + 1
  | .map entries => uptoBulkEntries entries + 1
  | .held _ => 1
def uptoBulkAll {H : Type} : List (DataW H) → Nat
  | [] => 0
  | d :: r => uptoBulk d + uptoBulkAll r
def uptoBulkEntries {H : Type} : List (Lit × DataW H) → Nat
  | [] => 0
  | x :: r => uptoBulkEntry x + uptoBulkEntries r
def uptoBulkEntry {H : Type} : Lit × DataW H → Nat
  | (.string bytes, d) => bytes.length + uptoBulk d + 1
  | (_, d) => uptoBulk d + 1
 end
def uptoSmall : (H : Type) → List (DataW H) → Bool := fun _ ds => decide (uptoBulkAll ds ≤ 1048576)
def OpenSpec.upto (s : _root_.Go.ChangeSpec) : _root_.Go.OpenSpec := { _root_.Go.OpenSpec.ofChange s with cond := some uptoSmall }

/-- 'locumlaw04.PlanPuts', WHERE WHAT IT READS IS OF BULK AT MOST 1048576: true; the input reads as it did. -/
def planPutsUptoRow : OpenClaim := { program := "ytkcoepeeamooiaa", sum := "8ccaf9f1744b806cf71d4ee11cb84caec7dd068ea4c877f692b4a5f63068b8ec", func := "locum/locumlaw04.PlanPuts", spec := "planPuts", unfollowed := true, recurses := true, apart := false, narrowed := true }
def PlanPutsUptoSaid : Prop := planPutsUptoRow.holds Try.pinned (OpenSpec.upto planPutsSpec)

/-- 'locumlaw04.PlanGets', WHERE WHAT IT READS IS OF BULK AT MOST 1048576: true; the input reads as it did. -/
def planGetsUptoRow : OpenClaim := { program := "ytkcoepeeamooiaa", sum := "8ccaf9f1744b806cf71d4ee11cb84caec7dd068ea4c877f692b4a5f63068b8ec", func := "locum/locumlaw04.PlanGets", spec := "planGets", unfollowed := true, recurses := true, apart := false, narrowed := true }
def PlanGetsUptoSaid : Prop := planGetsUptoRow.holds Try.pinned (OpenSpec.upto planGetsSpec)

/-- 'locumlaw04.PlanNames', WHERE WHAT IT READS IS OF BULK AT MOST 1048576: true; the input reads as it did. -/
def planNamesUptoRow : OpenClaim := { program := "ytkcoepeeamooiaa", sum := "8ccaf9f1744b806cf71d4ee11cb84caec7dd068ea4c877f692b4a5f63068b8ec", func := "locum/locumlaw04.PlanNames", spec := "planNames", unfollowed := true, recurses := true, apart := false, narrowed := true }
def PlanNamesUptoSaid : Prop := planNamesUptoRow.holds Try.pinned (OpenSpec.upto planNamesSpec)

/-- 'locumlaw04.PlanBack', WHERE WHAT IT READS IS OF BULK AT MOST 1048576: true; the input reads as it did. -/
def planBackUptoRow : OpenClaim := { program := "ytkcoepeeamooiaa", sum := "8ccaf9f1744b806cf71d4ee11cb84caec7dd068ea4c877f692b4a5f63068b8ec", func := "locum/locumlaw04.PlanBack", spec := "planBack", unfollowed := true, recurses := true, apart := false, narrowed := true }
def PlanBackUptoSaid : Prop := planBackUptoRow.holds Try.pinned (OpenSpec.upto planBackSpec)

/-- 'locumlaw04.PlanFew', WHERE WHAT IT READS IS OF BULK AT MOST 1048576: true; the input reads as it did. -/
def planFewUptoRow : OpenClaim := { program := "ytkcoepeeamooiaa", sum := "8ccaf9f1744b806cf71d4ee11cb84caec7dd068ea4c877f692b4a5f63068b8ec", func := "locum/locumlaw04.PlanFew", spec := "planFew", unfollowed := true, recurses := true, apart := false, narrowed := true }
def PlanFewUptoSaid : Prop := planFewUptoRow.holds Try.pinned (OpenSpec.upto planFewSpec)

/-- 'locumlaw04.PlanShort', WHERE WHAT IT READS IS OF BULK AT MOST 1048576: true; the input reads as it did. -/
def planShortUptoRow : OpenClaim := { program := "ytkcoepeeamooiaa", sum := "8ccaf9f1744b806cf71d4ee11cb84caec7dd068ea4c877f692b4a5f63068b8ec", func := "locum/locumlaw04.PlanShort", spec := "planShort", unfollowed := true, recurses := true, apart := false, narrowed := true }
def PlanShortUptoSaid : Prop := planShortUptoRow.holds Try.pinned (OpenSpec.upto planShortSpec)

/-- 'locumlaw04.PlanPercent', WHERE WHAT IT READS IS OF BULK AT MOST 1048576: true; the input reads as it did. -/
def planPercentUptoRow : OpenClaim := { program := "ytkcoepeeamooiaa", sum := "8ccaf9f1744b806cf71d4ee11cb84caec7dd068ea4c877f692b4a5f63068b8ec", func := "locum/locumlaw04.PlanPercent", spec := "planPercent", unfollowed := true, recurses := true, apart := false, narrowed := true }
def PlanPercentUptoSaid : Prop := planPercentUptoRow.holds Try.pinned (OpenSpec.upto planPercentSpec)

end Rows
end Go.Proofs.Ytkcoepeeamooiaa
