/-
  No cell of these rows narrows 'for every input' (looked for: loops, veiled, ifaces, maps, wideKeys, modest, calm, conditions, laid).
  DERIVED. THE GIVEN ROWS OF THIS SEAT. 6 by the template 'for every input the law returns true; each argument reads behind the call as it read before'; 0 by the template 'total and deterministic' (their statements: YtoelilejohfglaaGreatTotals.lean).
  GIVEN WITH THE SEED: the statements are not yours to turn. If you find one false, say at which input.
  Laid BY PROGRAM, IN A SANDBOX (cutbox-rows.mjs): the forced cells as the released guide's own fill.sh prints them over the translation 46d72a382da4dab3… (all of the seat's roots in one cut). By AI agents, Wed Nov 11 2026. No macro, syntax, notation, axiom, sorry.
-/
import Derived.Test.YtoelilejohfglaaGreatChecked
import GoSem.Claim
import GoSem.ClaimJoined
import GoSem.ClaimMapViews
import Derived.JoinedTies
import Derived.KernelRfl
namespace Go.Proofs.YtoelilejohfglaaGreat
/- THE CELL 'sum', in the pinned program and in every row, IS THE sha256 OF THE DUMP (.gsa) THAT YtoelilejohfglaaGreatProg.lean LOADS. Nothing in Lean hashes anything: it is a label: what it is worth is what the hold of that sum in a sandbox is worth. -/
noncomputable def Tryz.pinned : Pinned := { name := "ytoelilejohfglaagreat", sum := "46d72a382da4dab30f345746a258bb713e424b85e345e61c54977450a44827f8", checked := Tryz.checked }
namespace Rows
def none {H : Type} : Left H := { results := [], args := [] }

/-- 'beaglelaw18.EvalChecks': WHATEVER THE INPUT: true; the input reads as it did. -/
def evalChecksSpec : ChangeSpec := { name := "evalChecks", fn := fun _ => fun
  | [d1, d2] => { results := [.lit (.bool true)], args := [d1, d2] }
  | _ => none }
def evalChecksRow : OpenClaim := { program := "ytoelilejohfglaagreat", sum := "46d72a382da4dab30f345746a258bb713e424b85e345e61c54977450a44827f8", func := "beagle/beaglelaw18.EvalChecks", spec := "evalChecks", unfollowed := true, recurses := true, plainKeys := false, apart := false }
def EvalChecksSaid : Prop := evalChecksRow.holds Tryz.pinned (OpenSpec.ofChange evalChecksSpec)

/-- ITS FALSE NEIGHBOUR: 'it returns false'. Refute it at one input. -/
def evalChecksWrong : ChangeSpec := { name := "evalChecks", fn := fun _ => fun
  | [d1, d2] => { results := [.lit (.bool false)], args := [d1, d2] }
  | _ => none }
def EvalChecksWrongFalsely : Prop := evalChecksRow.holds Tryz.pinned (OpenSpec.ofChange evalChecksWrong)

/-- 'beaglelaw18.EvalWays': WHATEVER THE INPUT: true; the input reads as it did. -/
def evalWaysSpec : ChangeSpec := { name := "evalWays", fn := fun _ => fun
  | [d1, d2, d3] => { results := [.lit (.bool true)], args := [d1, d2, d3] }
  | _ => none }
def evalWaysRow : OpenClaim := { program := "ytoelilejohfglaagreat", sum := "46d72a382da4dab30f345746a258bb713e424b85e345e61c54977450a44827f8", func := "beagle/beaglelaw18.EvalWays", spec := "evalWays", unfollowed := true, recurses := true, plainKeys := false, apart := false }
def EvalWaysSaid : Prop := evalWaysRow.holds Tryz.pinned (OpenSpec.ofChange evalWaysSpec)

/-- ITS FALSE NEIGHBOUR: 'it returns false'. Refute it at one input. -/
def evalWaysWrong : ChangeSpec := { name := "evalWays", fn := fun _ => fun
  | [d1, d2, d3] => { results := [.lit (.bool false)], args := [d1, d2, d3] }
  | _ => none }
def EvalWaysWrongFalsely : Prop := evalWaysRow.holds Tryz.pinned (OpenSpec.ofChange evalWaysWrong)

/-- 'beaglelaw18.EvalJoins': WHATEVER THE INPUT: true; the input reads as it did. -/
def evalJoinsSpec : ChangeSpec := { name := "evalJoins", fn := fun _ => fun
  | [d1, d2, d3] => { results := [.lit (.bool true)], args := [d1, d2, d3] }
  | _ => none }
def evalJoinsRow : OpenClaim := { program := "ytoelilejohfglaagreat", sum := "46d72a382da4dab30f345746a258bb713e424b85e345e61c54977450a44827f8", func := "beagle/beaglelaw18.EvalJoins", spec := "evalJoins", unfollowed := true, recurses := true, plainKeys := false, apart := false }
def EvalJoinsSaid : Prop := evalJoinsRow.holds Tryz.pinned (OpenSpec.ofChange evalJoinsSpec)

/-- ITS FALSE NEIGHBOUR: 'it returns false'. Refute it at one input. -/
def evalJoinsWrong : ChangeSpec := { name := "evalJoins", fn := fun _ => fun
  | [d1, d2, d3] => { results := [.lit (.bool false)], args := [d1, d2, d3] }
  | _ => none }
def EvalJoinsWrongFalsely : Prop := evalJoinsRow.holds Tryz.pinned (OpenSpec.ofChange evalJoinsWrong)

/-- 'beaglelaw18.EvalFinds': WHATEVER THE INPUT: true; the input reads as it did. -/
def evalFindsSpec : ChangeSpec := { name := "evalFinds", fn := fun _ => fun
  | [d1, d2, d3] => { results := [.lit (.bool true)], args := [d1, d2, d3] }
  | _ => none }
def evalFindsRow : OpenClaim := { program := "ytoelilejohfglaagreat", sum := "46d72a382da4dab30f345746a258bb713e424b85e345e61c54977450a44827f8", func := "beagle/beaglelaw18.EvalFinds", spec := "evalFinds", unfollowed := true, recurses := true, plainKeys := false, apart := false }
def EvalFindsSaid : Prop := evalFindsRow.holds Tryz.pinned (OpenSpec.ofChange evalFindsSpec)

/-- ITS FALSE NEIGHBOUR: 'it returns false'. Refute it at one input. -/
def evalFindsWrong : ChangeSpec := { name := "evalFinds", fn := fun _ => fun
  | [d1, d2, d3] => { results := [.lit (.bool false)], args := [d1, d2, d3] }
  | _ => none }
def EvalFindsWrongFalsely : Prop := evalFindsRow.holds Tryz.pinned (OpenSpec.ofChange evalFindsWrong)

/-- 'beaglelaw18.EvalSame': WHATEVER THE INPUT: true; the input reads as it did. -/
def evalSameSpec : ChangeSpec := { name := "evalSame", fn := fun _ => fun
  | [d1, d2, d3] => { results := [.lit (.bool true)], args := [d1, d2, d3] }
  | _ => none }
def evalSameRow : OpenClaim := { program := "ytoelilejohfglaagreat", sum := "46d72a382da4dab30f345746a258bb713e424b85e345e61c54977450a44827f8", func := "beagle/beaglelaw18.EvalSame", spec := "evalSame", unfollowed := true, recurses := true, plainKeys := false, apart := false }
def EvalSameSaid : Prop := evalSameRow.holds Tryz.pinned (OpenSpec.ofChange evalSameSpec)

/-- ITS FALSE NEIGHBOUR: 'it returns false'. Refute it at one input. -/
def evalSameWrong : ChangeSpec := { name := "evalSame", fn := fun _ => fun
  | [d1, d2, d3] => { results := [.lit (.bool false)], args := [d1, d2, d3] }
  | _ => none }
def EvalSameWrongFalsely : Prop := evalSameRow.holds Tryz.pinned (OpenSpec.ofChange evalSameWrong)

/-- 'beaglelaw18.EvalGrows': WHATEVER THE INPUT: true; the input reads as it did. -/
def evalGrowsSpec : ChangeSpec := { name := "evalGrows", fn := fun _ => fun
  | [d1, d2, d3] => { results := [.lit (.bool true)], args := [d1, d2, d3] }
  | _ => none }
def evalGrowsRow : OpenClaim := { program := "ytoelilejohfglaagreat", sum := "46d72a382da4dab30f345746a258bb713e424b85e345e61c54977450a44827f8", func := "beagle/beaglelaw18.EvalGrows", spec := "evalGrows", unfollowed := true, recurses := true, plainKeys := false, apart := false }
def EvalGrowsSaid : Prop := evalGrowsRow.holds Tryz.pinned (OpenSpec.ofChange evalGrowsSpec)

/-- ITS FALSE NEIGHBOUR: 'it returns false'. Refute it at one input. -/
def evalGrowsWrong : ChangeSpec := { name := "evalGrows", fn := fun _ => fun
  | [d1, d2, d3] => { results := [.lit (.bool false)], args := [d1, d2, d3] }
  | _ => none }
def EvalGrowsWrongFalsely : Prop := evalGrowsRow.holds Tryz.pinned (OpenSpec.ofChange evalGrowsWrong)

/- THE SECOND FORM. 'bulk': how many values and letters a reading holds, each counted each time it is reached (what is shared counts as often as it is met; a slice's spare places count too). A statement '..UptoSaid' is the law's where the arguments, and the package variables that the reading takes, are together of bulk at most 1048576: NARROWER than '..Said'. Prove '..Said' where nothing that the law and all that it calls make is longer than what came in: it says more and counts as full. Else prove '..UptoSaid'. A law counts once. -/
mutual
def uptoBulk {H : Type} : DataW H → Nat
  | .lit (.string bytes) => bytes.length + 1
  | .lit _ => 1
  | .nil => 1
  | .ptr d => uptoBulk d + 1
  | .slice elems spare => uptoBulkAll elems + uptoBulkAll spare + 1
  | .agg parts => uptoBulkAll parts + 1
  | .iface _ d => uptoBulk d + 1
  | .map entries => uptoBulkEntries entries + 1
  | .held _ => 1
def uptoBulkAll {H : Type} : List (DataW H) → Nat
  | [] => 0
  | d :: r => uptoBulk d + uptoBulkAll r
def uptoBulkEntries {H : Type} : List (Lit × DataW H) → Nat
  | [] => 0
  | x :: r => uptoBulkEntry x + uptoBulkEntries r
def uptoBulkEntry {H : Type} : Lit × DataW H → Nat
  | (.string bytes, d) => bytes.length + uptoBulk d + 1
  | (_, d) => uptoBulk d + 1
 end
def uptoSmall : (H : Type) → List (DataW H) → Bool := fun _ ds => decide (uptoBulkAll ds ≤ 1048576)
def OpenSpec.upto (s : _root_.Go.ChangeSpec) : _root_.Go.OpenSpec := { _root_.Go.OpenSpec.ofChange s with cond := some uptoSmall }

/-- 'beaglelaw18.EvalChecks', WHERE WHAT IT READS IS OF BULK AT MOST 1048576: true; the input reads as it did. -/
def evalChecksUptoRow : OpenClaim := { program := "ytoelilejohfglaagreat", sum := "46d72a382da4dab30f345746a258bb713e424b85e345e61c54977450a44827f8", func := "beagle/beaglelaw18.EvalChecks", spec := "evalChecks", unfollowed := true, recurses := true, plainKeys := false, apart := false, narrowed := true }
def EvalChecksUptoSaid : Prop := evalChecksUptoRow.holds Tryz.pinned (OpenSpec.upto evalChecksSpec)

/-- 'beaglelaw18.EvalWays', WHERE WHAT IT READS IS OF BULK AT MOST 1048576: true; the input reads as it did. -/
def evalWaysUptoRow : OpenClaim := { program := "ytoelilejohfglaagreat", sum := "46d72a382da4dab30f345746a258bb713e424b85e345e61c54977450a44827f8", func := "beagle/beaglelaw18.EvalWays", spec := "evalWays", unfollowed := true, recurses := true, plainKeys := false, apart := false, narrowed := true }
def EvalWaysUptoSaid : Prop := evalWaysUptoRow.holds Tryz.pinned (OpenSpec.upto evalWaysSpec)

/-- 'beaglelaw18.EvalJoins', WHERE WHAT IT READS IS OF BULK AT MOST 1048576: true; the input reads as it did. -/
def evalJoinsUptoRow : OpenClaim := { program := "ytoelilejohfglaagreat", sum := "46d72a382da4dab30f345746a258bb713e424b85e345e61c54977450a44827f8", func := "beagle/beaglelaw18.EvalJoins", spec := "evalJoins", unfollowed := true, recurses := true, plainKeys := false, apart := false, narrowed := true }
def EvalJoinsUptoSaid : Prop := evalJoinsUptoRow.holds Tryz.pinned (OpenSpec.upto evalJoinsSpec)

/-- 'beaglelaw18.EvalFinds', WHERE WHAT IT READS IS OF BULK AT MOST 1048576: true; the input reads as it did. -/
def evalFindsUptoRow : OpenClaim := { program := "ytoelilejohfglaagreat", sum := "46d72a382da4dab30f345746a258bb713e424b85e345e61c54977450a44827f8", func := "beagle/beaglelaw18.EvalFinds", spec := "evalFinds", unfollowed := true, recurses := true, plainKeys := false, apart := false, narrowed := true }
def EvalFindsUptoSaid : Prop := evalFindsUptoRow.holds Tryz.pinned (OpenSpec.upto evalFindsSpec)

/-- 'beaglelaw18.EvalSame', WHERE WHAT IT READS IS OF BULK AT MOST 1048576: true; the input reads as it did. -/
def evalSameUptoRow : OpenClaim := { program := "ytoelilejohfglaagreat", sum := "46d72a382da4dab30f345746a258bb713e424b85e345e61c54977450a44827f8", func := "beagle/beaglelaw18.EvalSame", spec := "evalSame", unfollowed := true, recurses := true, plainKeys := false, apart := false, narrowed := true }
def EvalSameUptoSaid : Prop := evalSameUptoRow.holds Tryz.pinned (OpenSpec.upto evalSameSpec)

/-- 'beaglelaw18.EvalGrows', WHERE WHAT IT READS IS OF BULK AT MOST 1048576: true; the input reads as it did. -/
def evalGrowsUptoRow : OpenClaim := { program := "ytoelilejohfglaagreat", sum := "46d72a382da4dab30f345746a258bb713e424b85e345e61c54977450a44827f8", func := "beagle/beaglelaw18.EvalGrows", spec := "evalGrows", unfollowed := true, recurses := true, plainKeys := false, apart := false, narrowed := true }
def EvalGrowsUptoSaid : Prop := evalGrowsUptoRow.holds Tryz.pinned (OpenSpec.upto evalGrowsSpec)

end Rows
end Go.Proofs.YtoelilejohfglaaGreat
