/-
  No cell of these rows narrows 'for every input' (looked for: loops, veiled, ifaces, maps, wideKeys, modest, calm, conditions, laid).
  DERIVED. THE GIVEN ROWS OF THIS SEAT. 7 by the template 'for every input the law returns true; each argument reads behind the call as it read before'; 0 by the template 'total and deterministic' (their statements: YtllblpiakijpaaaTotals.lean).
  GIVEN WITH THE SEED: the statements are not yours to turn. If you find one false, say at which input.
  Laid BY PROGRAM, IN A SANDBOX (cutbox-rows.mjs): the forced cells as the released guide's own fill.sh prints them over the translation 919ee032005a0f0d… (all of the seat's roots in one cut). By AI agents, Wed Nov 11 2026. No macro, syntax, notation, axiom, sorry.
-/
import Derived.Test.YtllblpiakijpaaaChecked
import GoSem.Claim
import GoSem.ClaimJoined
import GoSem.ClaimMapViews
import Derived.JoinedTies
import Derived.KernelRfl
namespace Go.Proofs.Ytllblpiakijpaaa
/- THE CELL 'sum', in the pinned program and in every row, IS THE sha256 OF THE DUMP (.gsa) THAT YtllblpiakijpaaaProg.lean LOADS. Nothing in Lean hashes anything: it is a label: what it is worth is what the hold of that sum in a sandbox is worth. -/
noncomputable def Try.pinned : Pinned := { name := "ytllblpiakijpaaa", sum := "919ee032005a0f0df5b96984d620cdfacd545e273ab13347a0c400d75db97be7", checked := Try.checked }
namespace Rows
def none {H : Type} : Left H := { results := [], args := [] }

/-- 'beaglelaw14.QueryParses': WHATEVER THE INPUT: true; the input reads as it did. -/
def queryParsesSpec : ChangeSpec := { name := "queryParses", fn := fun _ => fun
  | [d] => { results := [.lit (.bool true)], args := [d] }
  | _ => none }
def queryParsesRow : OpenClaim := { program := "ytllblpiakijpaaa", sum := "919ee032005a0f0df5b96984d620cdfacd545e273ab13347a0c400d75db97be7", func := "beagle/beaglelaw14.QueryParses", spec := "queryParses", inPlace := ["internal/bytealg.IndexByteString"], unfollowed := true, recurses := true, apart := false }
def QueryParsesSaid : Prop := queryParsesRow.holds Try.pinned (OpenSpec.ofChange queryParsesSpec)

/-- ITS FALSE NEIGHBOUR: 'it returns false'. Refute it at one input. -/
def queryParsesWrong : ChangeSpec := { name := "queryParses", fn := fun _ => fun
  | [d] => { results := [.lit (.bool false)], args := [d] }
  | _ => none }
def QueryParsesWrongFalsely : Prop := queryParsesRow.holds Try.pinned (OpenSpec.ofChange queryParsesWrong)

/-- 'beaglelaw14.QueryRight': WHATEVER THE INPUT: true; the input reads as it did. -/
def queryRightSpec : ChangeSpec := { name := "queryRight", fn := fun _ => fun
  | [d] => { results := [.lit (.bool true)], args := [d] }
  | _ => none }
def queryRightRow : OpenClaim := { program := "ytllblpiakijpaaa", sum := "919ee032005a0f0df5b96984d620cdfacd545e273ab13347a0c400d75db97be7", func := "beagle/beaglelaw14.QueryRight", spec := "queryRight", inPlace := ["internal/bytealg.IndexByteString"], unfollowed := true, recurses := true, apart := false }
def QueryRightSaid : Prop := queryRightRow.holds Try.pinned (OpenSpec.ofChange queryRightSpec)

/-- ITS FALSE NEIGHBOUR: 'it returns false'. Refute it at one input. -/
def queryRightWrong : ChangeSpec := { name := "queryRight", fn := fun _ => fun
  | [d] => { results := [.lit (.bool false)], args := [d] }
  | _ => none }
def QueryRightWrongFalsely : Prop := queryRightRow.holds Try.pinned (OpenSpec.ofChange queryRightWrong)

/-- 'beaglelaw14.QueryLeaves': WHATEVER THE INPUT: true; the input reads as it did. -/
def queryLeavesSpec : ChangeSpec := { name := "queryLeaves", fn := fun _ => fun
  | [d1, d2] => { results := [.lit (.bool true)], args := [d1, d2] }
  | _ => none }
def queryLeavesRow : OpenClaim := { program := "ytllblpiakijpaaa", sum := "919ee032005a0f0df5b96984d620cdfacd545e273ab13347a0c400d75db97be7", func := "beagle/beaglelaw14.QueryLeaves", spec := "queryLeaves", inPlace := ["internal/bytealg.IndexByteString"], unfollowed := true, recurses := true, apart := false }
def QueryLeavesSaid : Prop := queryLeavesRow.holds Try.pinned (OpenSpec.ofChange queryLeavesSpec)

/-- ITS FALSE NEIGHBOUR: 'it returns false'. Refute it at one input. -/
def queryLeavesWrong : ChangeSpec := { name := "queryLeaves", fn := fun _ => fun
  | [d1, d2] => { results := [.lit (.bool false)], args := [d1, d2] }
  | _ => none }
def QueryLeavesWrongFalsely : Prop := queryLeavesRow.holds Try.pinned (OpenSpec.ofChange queryLeavesWrong)

/-- 'beaglelaw14.QueryPrints': WHATEVER THE INPUT: true; the input reads as it did. -/
def queryPrintsSpec : ChangeSpec := { name := "queryPrints", fn := fun _ => fun
  | [d] => { results := [.lit (.bool true)], args := [d] }
  | _ => none }
def queryPrintsRow : OpenClaim := { program := "ytllblpiakijpaaa", sum := "919ee032005a0f0df5b96984d620cdfacd545e273ab13347a0c400d75db97be7", func := "beagle/beaglelaw14.QueryPrints", spec := "queryPrints", inPlace := ["internal/bytealg.IndexByteString"], unfollowed := true, recurses := true, apart := false }
def QueryPrintsSaid : Prop := queryPrintsRow.holds Try.pinned (OpenSpec.ofChange queryPrintsSpec)

/-- ITS FALSE NEIGHBOUR: 'it returns false'. Refute it at one input. -/
def queryPrintsWrong : ChangeSpec := { name := "queryPrints", fn := fun _ => fun
  | [d] => { results := [.lit (.bool false)], args := [d] }
  | _ => none }
def QueryPrintsWrongFalsely : Prop := queryPrintsRow.holds Try.pinned (OpenSpec.ofChange queryPrintsWrong)

/-- 'beaglelaw14.QueryAgain': WHATEVER THE INPUT: true; the input reads as it did. -/
def queryAgainSpec : ChangeSpec := { name := "queryAgain", fn := fun _ => fun
  | [d] => { results := [.lit (.bool true)], args := [d] }
  | _ => none }
def queryAgainRow : OpenClaim := { program := "ytllblpiakijpaaa", sum := "919ee032005a0f0df5b96984d620cdfacd545e273ab13347a0c400d75db97be7", func := "beagle/beaglelaw14.QueryAgain", spec := "queryAgain", inPlace := ["internal/bytealg.IndexByteString"], unfollowed := true, recurses := true, apart := false }
def QueryAgainSaid : Prop := queryAgainRow.holds Try.pinned (OpenSpec.ofChange queryAgainSpec)

/-- ITS FALSE NEIGHBOUR: 'it returns false'. Refute it at one input. -/
def queryAgainWrong : ChangeSpec := { name := "queryAgain", fn := fun _ => fun
  | [d] => { results := [.lit (.bool false)], args := [d] }
  | _ => none }
def QueryAgainWrongFalsely : Prop := queryAgainRow.holds Try.pinned (OpenSpec.ofChange queryAgainWrong)

/-- 'beaglelaw14.QueryBrackets': WHATEVER THE INPUT: true; the input reads as it did. -/
def queryBracketsSpec : ChangeSpec := { name := "queryBrackets", fn := fun _ => fun
  | [d] => { results := [.lit (.bool true)], args := [d] }
  | _ => none }
def queryBracketsRow : OpenClaim := { program := "ytllblpiakijpaaa", sum := "919ee032005a0f0df5b96984d620cdfacd545e273ab13347a0c400d75db97be7", func := "beagle/beaglelaw14.QueryBrackets", spec := "queryBrackets", inPlace := ["internal/bytealg.IndexByteString"], unfollowed := true, recurses := true, apart := false }
def QueryBracketsSaid : Prop := queryBracketsRow.holds Try.pinned (OpenSpec.ofChange queryBracketsSpec)

/-- ITS FALSE NEIGHBOUR: 'it returns false'. Refute it at one input. -/
def queryBracketsWrong : ChangeSpec := { name := "queryBrackets", fn := fun _ => fun
  | [d] => { results := [.lit (.bool false)], args := [d] }
  | _ => none }
def QueryBracketsWrongFalsely : Prop := queryBracketsRow.holds Try.pinned (OpenSpec.ofChange queryBracketsWrong)

/-- 'beaglelaw14.QueryJoins': WHATEVER THE INPUT: true; the input reads as it did. -/
def queryJoinsSpec : ChangeSpec := { name := "queryJoins", fn := fun _ => fun
  | [d1, d2] => { results := [.lit (.bool true)], args := [d1, d2] }
  | _ => none }
def queryJoinsRow : OpenClaim := { program := "ytllblpiakijpaaa", sum := "919ee032005a0f0df5b96984d620cdfacd545e273ab13347a0c400d75db97be7", func := "beagle/beaglelaw14.QueryJoins", spec := "queryJoins", inPlace := ["internal/bytealg.IndexByteString"], unfollowed := true, recurses := true, apart := false }
def QueryJoinsSaid : Prop := queryJoinsRow.holds Try.pinned (OpenSpec.ofChange queryJoinsSpec)

/-- ITS FALSE NEIGHBOUR: 'it returns false'. Refute it at one input. -/
def queryJoinsWrong : ChangeSpec := { name := "queryJoins", fn := fun _ => fun
  | [d1, d2] => { results := [.lit (.bool false)], args := [d1, d2] }
  | _ => none }
def QueryJoinsWrongFalsely : Prop := queryJoinsRow.holds Try.pinned (OpenSpec.ofChange queryJoinsWrong)

/- THE SECOND FORM. 'bulk': how many values and letters a reading holds, each counted each time it is reached (what is shared counts as often as it is met; a slice's spare places count too). A statement '..UptoSaid' is the law's where the arguments, and the package variables that the reading takes, are together of bulk at most 1048576: NARROWER than '..Said'. Prove '..Said' where nothing that the law and all that it calls make is longer than what came in: it says more and counts as full. Else prove '..UptoSaid'. A law counts once. -/
mutual
def uptoBulk {H : Type} : DataW H → Nat
  | .lit (.string bytes) => bytes.length + 1
  | .lit _ => 1
  | .nil => 1
  | .ptr d => uptoBulk d + 1
  | .slice elems spare => uptoBulkAll elems + uptoBulkAll spare + 1
  | .agg parts => uptoBulkAll parts + 1
  | .iface _ d => uptoBulk d + 1
  | .map entries => uptoBulkEntries entries + 1
  | .held _ => 1
def uptoBulkAll {H : Type} : List (DataW H) → Nat
  | [] => 0
  | d :: r => uptoBulk d + uptoBulkAll r
def uptoBulkEntries {H : Type} : List (Lit × DataW H) → Nat
  | [] => 0
  | x :: r => uptoBulkEntry x + uptoBulkEntries r
def uptoBulkEntry {H : Type} : Lit × DataW H → Nat
  | (.string bytes, d) => bytes.length + uptoBulk d + 1
  | (_, d) => uptoBulk d + 1
 end
def uptoSmall : (H : Type) → List (DataW H) → Bool := fun _ ds => decide (uptoBulkAll ds ≤ 1048576)
def OpenSpec.upto (s : _root_.Go.ChangeSpec) : _root_.Go.OpenSpec := { _root_.Go.OpenSpec.ofChange s with cond := some uptoSmall }

/-- 'beaglelaw14.QueryParses', WHERE WHAT IT READS IS OF BULK AT MOST 1048576: true; the input reads as it did. -/
def queryParsesUptoRow : OpenClaim := { program := "ytllblpiakijpaaa", sum := "919ee032005a0f0df5b96984d620cdfacd545e273ab13347a0c400d75db97be7", func := "beagle/beaglelaw14.QueryParses", spec := "queryParses", inPlace := ["internal/bytealg.IndexByteString"], unfollowed := true, recurses := true, apart := false, narrowed := true }
def QueryParsesUptoSaid : Prop := queryParsesUptoRow.holds Try.pinned (OpenSpec.upto queryParsesSpec)

/-- 'beaglelaw14.QueryRight', WHERE WHAT IT READS IS OF BULK AT MOST 1048576: true; the input reads as it did. -/
def queryRightUptoRow : OpenClaim := { program := "ytllblpiakijpaaa", sum := "919ee032005a0f0df5b96984d620cdfacd545e273ab13347a0c400d75db97be7", func := "beagle/beaglelaw14.QueryRight", spec := "queryRight", inPlace := ["internal/bytealg.IndexByteString"], unfollowed := true, recurses := true, apart := false, narrowed := true }
def QueryRightUptoSaid : Prop := queryRightUptoRow.holds Try.pinned (OpenSpec.upto queryRightSpec)

/-- 'beaglelaw14.QueryLeaves', WHERE WHAT IT READS IS OF BULK AT MOST 1048576: true; the input reads as it did. -/
def queryLeavesUptoRow : OpenClaim := { program := "ytllblpiakijpaaa", sum := "919ee032005a0f0df5b96984d620cdfacd545e273ab13347a0c400d75db97be7", func := "beagle/beaglelaw14.QueryLeaves", spec := "queryLeaves", inPlace := ["internal/bytealg.IndexByteString"], unfollowed := true, recurses := true, apart := false, narrowed := true }
def QueryLeavesUptoSaid : Prop := queryLeavesUptoRow.holds Try.pinned (OpenSpec.upto queryLeavesSpec)

/-- 'beaglelaw14.QueryPrints', WHERE WHAT IT READS IS OF BULK AT MOST 1048576: true; the input reads as it did. -/
def queryPrintsUptoRow : OpenClaim := { program := "ytllblpiakijpaaa", sum := "919ee032005a0f0df5b96984d620cdfacd545e273ab13347a0c400d75db97be7", func := "beagle/beaglelaw14.QueryPrints", spec := "queryPrints", inPlace := ["internal/bytealg.IndexByteString"], unfollowed := true, recurses := true, apart := false, narrowed := true }
def QueryPrintsUptoSaid : Prop := queryPrintsUptoRow.holds Try.pinned (OpenSpec.upto queryPrintsSpec)

/-- 'beaglelaw14.QueryAgain', WHERE WHAT IT READS IS OF BULK AT MOST 1048576: true; the input reads as it did. -/
def queryAgainUptoRow : OpenClaim := { program := "ytllblpiakijpaaa", sum := "919ee032005a0f0df5b96984d620cdfacd545e273ab13347a0c400d75db97be7", func := "beagle/beaglelaw14.QueryAgain", spec := "queryAgain", inPlace := ["internal/bytealg.IndexByteString"], unfollowed := true, recurses := true, apart := false, narrowed := true }
def QueryAgainUptoSaid : Prop := queryAgainUptoRow.holds Try.pinned (OpenSpec.upto queryAgainSpec)

/-- 'beaglelaw14.QueryBrackets', WHERE WHAT IT READS IS OF BULK AT MOST 1048576: true; the input reads as it did. -/
def queryBracketsUptoRow : OpenClaim := { program := "ytllblpiakijpaaa", sum := "919ee032005a0f0df5b96984d620cdfacd545e273ab13347a0c400d75db97be7", func := "beagle/beaglelaw14.QueryBrackets", spec := "queryBrackets", inPlace := ["internal/bytealg.IndexByteString"], unfollowed := true, recurses := true, apart := false, narrowed := true }
def QueryBracketsUptoSaid : Prop := queryBracketsUptoRow.holds Try.pinned (OpenSpec.upto queryBracketsSpec)

/-- 'beaglelaw14.QueryJoins', WHERE WHAT IT READS IS OF BULK AT MOST 1048576: true; the input reads as it did. -/
def queryJoinsUptoRow : OpenClaim := { program := "ytllblpiakijpaaa", sum := "919ee032005a0f0df5b96984d620cdfacd545e273ab13347a0c400d75db97be7", func := "beagle/beaglelaw14.QueryJoins", spec := "queryJoins", inPlace := ["internal/bytealg.IndexByteString"], unfollowed := true, recurses := true, apart := false, narrowed := true }
def QueryJoinsUptoSaid : Prop := queryJoinsUptoRow.holds Try.pinned (OpenSpec.upto queryJoinsSpec)

end Rows
end Go.Proofs.Ytllblpiakijpaaa
