/-
  No cell of these rows narrows 'for every input' (looked for: loops, veiled, ifaces, maps, wideKeys, modest, calm, conditions, laid).
  DERIVED. THE GIVEN ROWS OF THIS SEAT. 12 by the template 'for every input the law returns true; each argument reads behind the call as it read before'; 0 by the template 'total and deterministic' (their statements: YtaniaeibaklbgaaTotals.lean).
  GIVEN WITH THE SEED: the statements are not yours to turn. If you find one false, say at which input.
  Laid BY PROGRAM, IN A SANDBOX (cutbox-rows.mjs): the forced cells as the released guide's own fill.sh prints them over the translation 879734a9fd19ec2e… (all of the seat's roots in one cut). By AI agents, Wed Nov 11 2026. No macro, syntax, notation, axiom, sorry.
-/
import Derived.Test.YtaniaeibaklbgaaChecked
import GoSem.Claim
import GoSem.ClaimJoined
import GoSem.ClaimMapViews
import Derived.JoinedTies
import Derived.KernelRfl
namespace Go.Proofs.Ytaniaeibaklbgaa
/- THE CELL 'sum', in the pinned program and in every row, IS THE sha256 OF THE DUMP (.gsa) THAT YtaniaeibaklbgaaProg.lean LOADS. Nothing in Lean hashes anything: it is a label: what it is worth is what the hold of that sum in a sandbox is worth. -/
noncomputable def Try.pinned : Pinned := { name := "ytaniaeibaklbgaa", sum := "879734a9fd19ec2e4ae271ac0c41ba07ccf51846065e5611ce4d5aaa0fbc646d", checked := Try.checked }
namespace Rows
def none {H : Type} : Left H := { results := [], args := [] }

/-- 'beaglelaw19.FeedReads': WHATEVER THE INPUT: true; the input reads as it did. -/
def feedReadsSpec : ChangeSpec := { name := "feedReads", fn := fun _ => fun
  | [d1, d2, d3] => { results := [.lit (.bool true)], args := [d1, d2, d3] }
  | _ => none }
def feedReadsRow : OpenClaim := { program := "ytaniaeibaklbgaa", sum := "879734a9fd19ec2e4ae271ac0c41ba07ccf51846065e5611ce4d5aaa0fbc646d", func := "beagle/beaglelaw19.FeedReads", spec := "feedReads", apart := false }
def FeedReadsSaid : Prop := feedReadsRow.holds Try.pinned (OpenSpec.ofChange feedReadsSpec)

/-- ITS FALSE NEIGHBOUR: 'it returns false'. Refute it at one input. -/
def feedReadsWrong : ChangeSpec := { name := "feedReads", fn := fun _ => fun
  | [d1, d2, d3] => { results := [.lit (.bool false)], args := [d1, d2, d3] }
  | _ => none }
def FeedReadsWrongFalsely : Prop := feedReadsRow.holds Try.pinned (OpenSpec.ofChange feedReadsWrong)

/-- 'beaglelaw19.FeedWhole': WHATEVER THE INPUT: true; the input reads as it did. -/
def feedWholeSpec : ChangeSpec := { name := "feedWhole", fn := fun _ => fun
  | [d1, d2, d3] => { results := [.lit (.bool true)], args := [d1, d2, d3] }
  | _ => none }
def feedWholeRow : OpenClaim := { program := "ytaniaeibaklbgaa", sum := "879734a9fd19ec2e4ae271ac0c41ba07ccf51846065e5611ce4d5aaa0fbc646d", func := "beagle/beaglelaw19.FeedWhole", spec := "feedWhole", apart := false }
def FeedWholeSaid : Prop := feedWholeRow.holds Try.pinned (OpenSpec.ofChange feedWholeSpec)

/-- ITS FALSE NEIGHBOUR: 'it returns false'. Refute it at one input. -/
def feedWholeWrong : ChangeSpec := { name := "feedWhole", fn := fun _ => fun
  | [d1, d2, d3] => { results := [.lit (.bool false)], args := [d1, d2, d3] }
  | _ => none }
def FeedWholeWrongFalsely : Prop := feedWholeRow.holds Try.pinned (OpenSpec.ofChange feedWholeWrong)

/-- 'beaglelaw19.FeedOwn': WHATEVER THE INPUT: true; the input reads as it did. -/
def feedOwnSpec : ChangeSpec := { name := "feedOwn", fn := fun _ => fun
  | [d1, d2] => { results := [.lit (.bool true)], args := [d1, d2] }
  | _ => none }
def feedOwnRow : OpenClaim := { program := "ytaniaeibaklbgaa", sum := "879734a9fd19ec2e4ae271ac0c41ba07ccf51846065e5611ce4d5aaa0fbc646d", func := "beagle/beaglelaw19.FeedOwn", spec := "feedOwn", apart := false }
def FeedOwnSaid : Prop := feedOwnRow.holds Try.pinned (OpenSpec.ofChange feedOwnSpec)

/-- ITS FALSE NEIGHBOUR: 'it returns false'. Refute it at one input. -/
def feedOwnWrong : ChangeSpec := { name := "feedOwn", fn := fun _ => fun
  | [d1, d2] => { results := [.lit (.bool false)], args := [d1, d2] }
  | _ => none }
def FeedOwnWrongFalsely : Prop := feedOwnRow.holds Try.pinned (OpenSpec.ofChange feedOwnWrong)

/-- 'beaglelaw19.FeedHead': WHATEVER THE INPUT: true; the input reads as it did. -/
def feedHeadSpec : ChangeSpec := { name := "feedHead", fn := fun _ => fun
  | [d1, d2, d3] => { results := [.lit (.bool true)], args := [d1, d2, d3] }
  | _ => none }
def feedHeadRow : OpenClaim := { program := "ytaniaeibaklbgaa", sum := "879734a9fd19ec2e4ae271ac0c41ba07ccf51846065e5611ce4d5aaa0fbc646d", func := "beagle/beaglelaw19.FeedHead", spec := "feedHead", apart := false }
def FeedHeadSaid : Prop := feedHeadRow.holds Try.pinned (OpenSpec.ofChange feedHeadSpec)

/-- ITS FALSE NEIGHBOUR: 'it returns false'. Refute it at one input. -/
def feedHeadWrong : ChangeSpec := { name := "feedHead", fn := fun _ => fun
  | [d1, d2, d3] => { results := [.lit (.bool false)], args := [d1, d2, d3] }
  | _ => none }
def FeedHeadWrongFalsely : Prop := feedHeadRow.holds Try.pinned (OpenSpec.ofChange feedHeadWrong)

/-- 'beaglelaw19.FeedPieces': WHATEVER THE INPUT: true; the input reads as it did. -/
def feedPiecesSpec : ChangeSpec := { name := "feedPieces", fn := fun _ => fun
  | [d1, d2] => { results := [.lit (.bool true)], args := [d1, d2] }
  | _ => none }
def feedPiecesRow : OpenClaim := { program := "ytaniaeibaklbgaa", sum := "879734a9fd19ec2e4ae271ac0c41ba07ccf51846065e5611ce4d5aaa0fbc646d", func := "beagle/beaglelaw19.FeedPieces", spec := "feedPieces", apart := false }
def FeedPiecesSaid : Prop := feedPiecesRow.holds Try.pinned (OpenSpec.ofChange feedPiecesSpec)

/-- ITS FALSE NEIGHBOUR: 'it returns false'. Refute it at one input. -/
def feedPiecesWrong : ChangeSpec := { name := "feedPieces", fn := fun _ => fun
  | [d1, d2] => { results := [.lit (.bool false)], args := [d1, d2] }
  | _ => none }
def FeedPiecesWrongFalsely : Prop := feedPiecesRow.holds Try.pinned (OpenSpec.ofChange feedPiecesWrong)

/-- 'beaglelaw19.FeedAgain': WHATEVER THE INPUT: true; the input reads as it did. -/
def feedAgainSpec : ChangeSpec := { name := "feedAgain", fn := fun _ => fun
  | [d1, d2, d3] => { results := [.lit (.bool true)], args := [d1, d2, d3] }
  | _ => none }
def feedAgainRow : OpenClaim := { program := "ytaniaeibaklbgaa", sum := "879734a9fd19ec2e4ae271ac0c41ba07ccf51846065e5611ce4d5aaa0fbc646d", func := "beagle/beaglelaw19.FeedAgain", spec := "feedAgain", apart := false }
def FeedAgainSaid : Prop := feedAgainRow.holds Try.pinned (OpenSpec.ofChange feedAgainSpec)

/-- ITS FALSE NEIGHBOUR: 'it returns false'. Refute it at one input. -/
def feedAgainWrong : ChangeSpec := { name := "feedAgain", fn := fun _ => fun
  | [d1, d2, d3] => { results := [.lit (.bool false)], args := [d1, d2, d3] }
  | _ => none }
def FeedAgainWrongFalsely : Prop := feedAgainRow.holds Try.pinned (OpenSpec.ofChange feedAgainWrong)

/-- 'beaglelaw15.SetRight': WHATEVER THE INPUT: true; the input reads as it did. -/
def setRightSpec : ChangeSpec := { name := "setRight", fn := fun _ => fun
  | [d] => { results := [.lit (.bool true)], args := [d] }
  | _ => none }
def setRightRow : OpenClaim := { program := "ytaniaeibaklbgaa", sum := "879734a9fd19ec2e4ae271ac0c41ba07ccf51846065e5611ce4d5aaa0fbc646d", func := "beagle/beaglelaw15.SetRight", spec := "setRight", unfollowed := true, recurses := true, apart := false }
def SetRightSaid : Prop := setRightRow.holds Try.pinned (OpenSpec.ofChange setRightSpec)

/-- ITS FALSE NEIGHBOUR: 'it returns false'. Refute it at one input. -/
def setRightWrong : ChangeSpec := { name := "setRight", fn := fun _ => fun
  | [d] => { results := [.lit (.bool false)], args := [d] }
  | _ => none }
def SetRightWrongFalsely : Prop := setRightRow.holds Try.pinned (OpenSpec.ofChange setRightWrong)

/-- 'beaglelaw15.SetTwo': WHATEVER THE INPUT: true; the input reads as it did. -/
def setTwoSpec : ChangeSpec := { name := "setTwo", fn := fun _ => fun
  | [d1, d2] => { results := [.lit (.bool true)], args := [d1, d2] }
  | _ => none }
def setTwoRow : OpenClaim := { program := "ytaniaeibaklbgaa", sum := "879734a9fd19ec2e4ae271ac0c41ba07ccf51846065e5611ce4d5aaa0fbc646d", func := "beagle/beaglelaw15.SetTwo", spec := "setTwo", unfollowed := true, recurses := true, apart := false }
def SetTwoSaid : Prop := setTwoRow.holds Try.pinned (OpenSpec.ofChange setTwoSpec)

/-- ITS FALSE NEIGHBOUR: 'it returns false'. Refute it at one input. -/
def setTwoWrong : ChangeSpec := { name := "setTwo", fn := fun _ => fun
  | [d1, d2] => { results := [.lit (.bool false)], args := [d1, d2] }
  | _ => none }
def SetTwoWrongFalsely : Prop := setTwoRow.holds Try.pinned (OpenSpec.ofChange setTwoWrong)

/-- 'beaglelaw15.SetOne': WHATEVER THE INPUT: true; the input reads as it did. -/
def setOneSpec : ChangeSpec := { name := "setOne", fn := fun _ => fun
  | [d1, d2] => { results := [.lit (.bool true)], args := [d1, d2] }
  | _ => none }
def setOneRow : OpenClaim := { program := "ytaniaeibaklbgaa", sum := "879734a9fd19ec2e4ae271ac0c41ba07ccf51846065e5611ce4d5aaa0fbc646d", func := "beagle/beaglelaw15.SetOne", spec := "setOne", unfollowed := true, recurses := true, apart := false }
def SetOneSaid : Prop := setOneRow.holds Try.pinned (OpenSpec.ofChange setOneSpec)

/-- ITS FALSE NEIGHBOUR: 'it returns false'. Refute it at one input. -/
def setOneWrong : ChangeSpec := { name := "setOne", fn := fun _ => fun
  | [d1, d2] => { results := [.lit (.bool false)], args := [d1, d2] }
  | _ => none }
def SetOneWrongFalsely : Prop := setOneRow.holds Try.pinned (OpenSpec.ofChange setOneWrong)

/-- 'beaglelaw15.SetNots': WHATEVER THE INPUT: true; the input reads as it did. -/
def setNotsSpec : ChangeSpec := { name := "setNots", fn := fun _ => fun
  | [d1, d2, d3] => { results := [.lit (.bool true)], args := [d1, d2, d3] }
  | _ => none }
def setNotsRow : OpenClaim := { program := "ytaniaeibaklbgaa", sum := "879734a9fd19ec2e4ae271ac0c41ba07ccf51846065e5611ce4d5aaa0fbc646d", func := "beagle/beaglelaw15.SetNots", spec := "setNots", unfollowed := true, recurses := true, apart := false }
def SetNotsSaid : Prop := setNotsRow.holds Try.pinned (OpenSpec.ofChange setNotsSpec)

/-- ITS FALSE NEIGHBOUR: 'it returns false'. Refute it at one input. -/
def setNotsWrong : ChangeSpec := { name := "setNots", fn := fun _ => fun
  | [d1, d2, d3] => { results := [.lit (.bool false)], args := [d1, d2, d3] }
  | _ => none }
def SetNotsWrongFalsely : Prop := setNotsRow.holds Try.pinned (OpenSpec.ofChange setNotsWrong)

/-- 'beaglelaw15.SetTells': WHATEVER THE INPUT: true; the input reads as it did. -/
def setTellsSpec : ChangeSpec := { name := "setTells", fn := fun _ => fun
  | [d1, d2, d3] => { results := [.lit (.bool true)], args := [d1, d2, d3] }
  | _ => none }
def setTellsRow : OpenClaim := { program := "ytaniaeibaklbgaa", sum := "879734a9fd19ec2e4ae271ac0c41ba07ccf51846065e5611ce4d5aaa0fbc646d", func := "beagle/beaglelaw15.SetTells", spec := "setTells", unfollowed := true, recurses := true, apart := false }
def SetTellsSaid : Prop := setTellsRow.holds Try.pinned (OpenSpec.ofChange setTellsSpec)

/-- ITS FALSE NEIGHBOUR: 'it returns false'. Refute it at one input. -/
def setTellsWrong : ChangeSpec := { name := "setTells", fn := fun _ => fun
  | [d1, d2, d3] => { results := [.lit (.bool false)], args := [d1, d2, d3] }
  | _ => none }
def SetTellsWrongFalsely : Prop := setTellsRow.holds Try.pinned (OpenSpec.ofChange setTellsWrong)

/-- 'beaglelaw15.SetShifts': WHATEVER THE INPUT: true; the input reads as it did. -/
def setShiftsSpec : ChangeSpec := { name := "setShifts", fn := fun _ => fun
  | [d1, d2, d3] => { results := [.lit (.bool true)], args := [d1, d2, d3] }
  | _ => none }
def setShiftsRow : OpenClaim := { program := "ytaniaeibaklbgaa", sum := "879734a9fd19ec2e4ae271ac0c41ba07ccf51846065e5611ce4d5aaa0fbc646d", func := "beagle/beaglelaw15.SetShifts", spec := "setShifts", unfollowed := true, recurses := true, apart := false }
def SetShiftsSaid : Prop := setShiftsRow.holds Try.pinned (OpenSpec.ofChange setShiftsSpec)

/-- ITS FALSE NEIGHBOUR: 'it returns false'. Refute it at one input. -/
def setShiftsWrong : ChangeSpec := { name := "setShifts", fn := fun _ => fun
  | [d1, d2, d3] => { results := [.lit (.bool false)], args := [d1, d2, d3] }
  | _ => none }
def SetShiftsWrongFalsely : Prop := setShiftsRow.holds Try.pinned (OpenSpec.ofChange setShiftsWrong)

/- THE SECOND FORM. 'bulk': how many values and letters a reading holds, each counted each time it is reached (what is shared counts as often as it is met; a slice's spare places count too). A statement '..UptoSaid' is the law's where the arguments, and the package variables that the reading takes, are together of bulk at most 1048576: NARROWER than '..Said'. Prove '..Said' where nothing that the law and all that it calls make is longer than what came in: it says more and counts as full. Else prove '..UptoSaid'. A law counts once. -/
mutual
def uptoBulk {H : Type} : DataW H → Nat
  | .lit (.string bytes) => bytes.length + 1
  | .lit _ => 1
  | .nil => 1
  | .ptr d => uptoBulk d + 1
  | .slice elems spare => uptoBulkAll elems + uptoBulkAll spare + 1
  | .agg parts => uptoBulkAll parts + 1
  | .iface _ d => uptoBulk d + 1
  | .map entries => uptoBulkEntries entries + 1
  | .held _ => 1
def uptoBulkAll {H : Type} : List (DataW H) → Nat
  | [] => 0
  | d :: r => uptoBulk d + uptoBulkAll r
def uptoBulkEntries {H : Type} : List (Lit × DataW H) → Nat
  | [] => 0
  | x :: r => uptoBulkEntry x + uptoBulkEntries r
def uptoBulkEntry {H : Type} : Lit × DataW H → Nat
  | (.string bytes, d) => bytes.length + uptoBulk d + 1
  | (_, d) => uptoBulk d + 1
 end
def uptoSmall : (H : Type) → List (DataW H) → Bool := fun _ ds => decide (uptoBulkAll ds ≤ 1048576)
def OpenSpec.upto (s : _root_.Go.ChangeSpec) : _root_.Go.OpenSpec := { _root_.Go.OpenSpec.ofChange s with cond := some uptoSmall }

/-- 'beaglelaw19.FeedReads', WHERE WHAT IT READS IS OF BULK AT MOST 1048576: true; the input reads as it did. -/
def feedReadsUptoRow : OpenClaim := { program := "ytaniaeibaklbgaa", sum := "879734a9fd19ec2e4ae271ac0c41ba07ccf51846065e5611ce4d5aaa0fbc646d", func := "beagle/beaglelaw19.FeedReads", spec := "feedReads", apart := false, narrowed := true }
def FeedReadsUptoSaid : Prop := feedReadsUptoRow.holds Try.pinned (OpenSpec.upto feedReadsSpec)

/-- 'beaglelaw19.FeedWhole', WHERE WHAT IT READS IS OF BULK AT MOST 1048576: true; the input reads as it did. -/
def feedWholeUptoRow : OpenClaim := { program := "ytaniaeibaklbgaa", sum := "879734a9fd19ec2e4ae271ac0c41ba07ccf51846065e5611ce4d5aaa0fbc646d", func := "beagle/beaglelaw19.FeedWhole", spec := "feedWhole", apart := false, narrowed := true }
def FeedWholeUptoSaid : Prop := feedWholeUptoRow.holds Try.pinned (OpenSpec.upto feedWholeSpec)

/-- 'beaglelaw19.FeedOwn', WHERE WHAT IT READS IS OF BULK AT MOST 1048576: true; the input reads as it did. -/
def feedOwnUptoRow : OpenClaim := { program := "ytaniaeibaklbgaa", sum := "879734a9fd19ec2e4ae271ac0c41ba07ccf51846065e5611ce4d5aaa0fbc646d", func := "beagle/beaglelaw19.FeedOwn", spec := "feedOwn", apart := false, narrowed := true }
def FeedOwnUptoSaid : Prop := feedOwnUptoRow.holds Try.pinned (OpenSpec.upto feedOwnSpec)

/-- 'beaglelaw19.FeedHead', WHERE WHAT IT READS IS OF BULK AT MOST 1048576: true; the input reads as it did. -/
def feedHeadUptoRow : OpenClaim := { program := "ytaniaeibaklbgaa", sum := "879734a9fd19ec2e4ae271ac0c41ba07ccf51846065e5611ce4d5aaa0fbc646d", func := "beagle/beaglelaw19.FeedHead", spec := "feedHead", apart := false, narrowed := true }
def FeedHeadUptoSaid : Prop := feedHeadUptoRow.holds Try.pinned (OpenSpec.upto feedHeadSpec)

/-- 'beaglelaw19.FeedPieces', WHERE WHAT IT READS IS OF BULK AT MOST 1048576: true; the input reads as it did. -/
def feedPiecesUptoRow : OpenClaim := { program := "ytaniaeibaklbgaa", sum := "879734a9fd19ec2e4ae271ac0c41ba07ccf51846065e5611ce4d5aaa0fbc646d", func := "beagle/beaglelaw19.FeedPieces", spec := "feedPieces", apart := false, narrowed := true }
def FeedPiecesUptoSaid : Prop := feedPiecesUptoRow.holds Try.pinned (OpenSpec.upto feedPiecesSpec)

/-- 'beaglelaw19.FeedAgain', WHERE WHAT IT READS IS OF BULK AT MOST 1048576: true; the input reads as it did. -/
def feedAgainUptoRow : OpenClaim := { program := "ytaniaeibaklbgaa", sum := "879734a9fd19ec2e4ae271ac0c41ba07ccf51846065e5611ce4d5aaa0fbc646d", func := "beagle/beaglelaw19.FeedAgain", spec := "feedAgain", apart := false, narrowed := true }
def FeedAgainUptoSaid : Prop := feedAgainUptoRow.holds Try.pinned (OpenSpec.upto feedAgainSpec)

/-- 'beaglelaw15.SetRight', WHERE WHAT IT READS IS OF BULK AT MOST 1048576: true; the input reads as it did. -/
def setRightUptoRow : OpenClaim := { program := "ytaniaeibaklbgaa", sum := "879734a9fd19ec2e4ae271ac0c41ba07ccf51846065e5611ce4d5aaa0fbc646d", func := "beagle/beaglelaw15.SetRight", spec := "setRight", unfollowed := true, recurses := true, apart := false, narrowed := true }
def SetRightUptoSaid : Prop := setRightUptoRow.holds Try.pinned (OpenSpec.upto setRightSpec)

/-- 'beaglelaw15.SetTwo', WHERE WHAT IT READS IS OF BULK AT MOST 1048576: true; the input reads as it did. -/
def setTwoUptoRow : OpenClaim := { program := "ytaniaeibaklbgaa", sum := "879734a9fd19ec2e4ae271ac0c41ba07ccf51846065e5611ce4d5aaa0fbc646d", func := "beagle/beaglelaw15.SetTwo", spec := "setTwo", unfollowed := true, recurses := true, apart := false, narrowed := true }
def SetTwoUptoSaid : Prop := setTwoUptoRow.holds Try.pinned (OpenSpec.upto setTwoSpec)

/-- 'beaglelaw15.SetOne', WHERE WHAT IT READS IS OF BULK AT MOST 1048576: true; the input reads as it did. -/
def setOneUptoRow : OpenClaim := { program := "ytaniaeibaklbgaa", sum := "879734a9fd19ec2e4ae271ac0c41ba07ccf51846065e5611ce4d5aaa0fbc646d", func := "beagle/beaglelaw15.SetOne", spec := "setOne", unfollowed := true, recurses := true, apart := false, narrowed := true }
def SetOneUptoSaid : Prop := setOneUptoRow.holds Try.pinned (OpenSpec.upto setOneSpec)

/-- 'beaglelaw15.SetNots', WHERE WHAT IT READS IS OF BULK AT MOST 1048576: true; the input reads as it did. -/
def setNotsUptoRow : OpenClaim := { program := "ytaniaeibaklbgaa", sum := "879734a9fd19ec2e4ae271ac0c41ba07ccf51846065e5611ce4d5aaa0fbc646d", func := "beagle/beaglelaw15.SetNots", spec := "setNots", unfollowed := true, recurses := true, apart := false, narrowed := true }
def SetNotsUptoSaid : Prop := setNotsUptoRow.holds Try.pinned (OpenSpec.upto setNotsSpec)

/-- 'beaglelaw15.SetTells', WHERE WHAT IT READS IS OF BULK AT MOST 1048576: true; the input reads as it did. -/
def setTellsUptoRow : OpenClaim := { program := "ytaniaeibaklbgaa", sum := "879734a9fd19ec2e4ae271ac0c41ba07ccf51846065e5611ce4d5aaa0fbc646d", func := "beagle/beaglelaw15.SetTells", spec := "setTells", unfollowed := true, recurses := true, apart := false, narrowed := true }
def SetTellsUptoSaid : Prop := setTellsUptoRow.holds Try.pinned (OpenSpec.upto setTellsSpec)

/-- 'beaglelaw15.SetShifts', WHERE WHAT IT READS IS OF BULK AT MOST 1048576: true; the input reads as it did. -/
def setShiftsUptoRow : OpenClaim := { program := "ytaniaeibaklbgaa", sum := "879734a9fd19ec2e4ae271ac0c41ba07ccf51846065e5611ce4d5aaa0fbc646d", func := "beagle/beaglelaw15.SetShifts", spec := "setShifts", unfollowed := true, recurses := true, apart := false, narrowed := true }
def SetShiftsUptoSaid : Prop := setShiftsUptoRow.holds Try.pinned (OpenSpec.upto setShiftsSpec)

end Rows
end Go.Proofs.Ytaniaeibaklbgaa
