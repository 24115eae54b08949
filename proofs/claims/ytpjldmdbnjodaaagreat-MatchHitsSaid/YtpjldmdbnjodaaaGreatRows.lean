/-
  No cell of these rows narrows 'for every input' (looked for: loops, veiled, ifaces, maps, wideKeys, modest, calm, conditions, laid).
  DERIVED. THE GIVEN ROWS OF THIS SEAT. 6 by the template 'for every input the law returns true; each argument reads behind the call as it read before'; 0 by the template 'total and deterministic' (their statements: YtpjldmdbnjodaaaGreatTotals.lean).
  GIVEN WITH THE SEED: the statements are not yours to turn. If you find one false, say at which input.
  Laid BY PROGRAM, IN A SANDBOX (cutbox-rows.mjs): the forced cells as the released guide's own fill.sh prints them over the translation 8511b8f34b3ec3d8… (all of the seat's roots in one cut). By AI agents, Wed Nov 11 2026. No macro, syntax, notation, axiom, sorry.
-/
import Derived.Test.YtpjldmdbnjodaaaGreatChecked
import GoSem.Claim
import GoSem.ClaimJoined
import GoSem.ClaimMapViews
import Derived.JoinedTies
import Derived.KernelRfl
namespace Go.Proofs.YtpjldmdbnjodaaaGreat
/- THE CELL 'sum', in the pinned program and in every row, IS THE sha256 OF THE DUMP (.gsa) THAT YtpjldmdbnjodaaaGreatProg.lean LOADS. Nothing in Lean hashes anything: it is a label: what it is worth is what the hold of that sum in a sandbox is worth. -/
noncomputable def Tryz.pinned : Pinned := { name := "ytpjldmdbnjodaaagreat", sum := "8511b8f34b3ec3d85e11605d736788e977b8bea05b7109d4a213683585c77796", checked := Tryz.checked }
namespace Rows
def none {H : Type} : Left H := { results := [], args := [] }

/-- 'beaglelaw17.MatchFinds': WHATEVER THE INPUT: true; the input reads as it did. -/
def matchFindsSpec : ChangeSpec := { name := "matchFinds", fn := fun _ => fun
  | [d1, d2, d3] => { results := [.lit (.bool true)], args := [d1, d2, d3] }
  | _ => none }
def matchFindsRow : OpenClaim := { program := "ytpjldmdbnjodaaagreat", sum := "8511b8f34b3ec3d85e11605d736788e977b8bea05b7109d4a213683585c77796", func := "beagle/beaglelaw17.MatchFinds", spec := "matchFinds", unfollowed := true, recurses := true, plainKeys := false, apart := false }
def MatchFindsSaid : Prop := matchFindsRow.holds Tryz.pinned (OpenSpec.ofChange matchFindsSpec)

/-- ITS FALSE NEIGHBOUR: 'it returns false'. Refute it at one input. -/
def matchFindsWrong : ChangeSpec := { name := "matchFinds", fn := fun _ => fun
  | [d1, d2, d3] => { results := [.lit (.bool false)], args := [d1, d2, d3] }
  | _ => none }
def MatchFindsWrongFalsely : Prop := matchFindsRow.holds Tryz.pinned (OpenSpec.ofChange matchFindsWrong)

/-- 'beaglelaw17.MatchCounts': WHATEVER THE INPUT: true; the input reads as it did. -/
def matchCountsSpec : ChangeSpec := { name := "matchCounts", fn := fun _ => fun
  | [d1, d2, d3] => { results := [.lit (.bool true)], args := [d1, d2, d3] }
  | _ => none }
def matchCountsRow : OpenClaim := { program := "ytpjldmdbnjodaaagreat", sum := "8511b8f34b3ec3d85e11605d736788e977b8bea05b7109d4a213683585c77796", func := "beagle/beaglelaw17.MatchCounts", spec := "matchCounts", unfollowed := true, recurses := true, plainKeys := false, apart := false }
def MatchCountsSaid : Prop := matchCountsRow.holds Tryz.pinned (OpenSpec.ofChange matchCountsSpec)

/-- ITS FALSE NEIGHBOUR: 'it returns false'. Refute it at one input. -/
def matchCountsWrong : ChangeSpec := { name := "matchCounts", fn := fun _ => fun
  | [d1, d2, d3] => { results := [.lit (.bool false)], args := [d1, d2, d3] }
  | _ => none }
def MatchCountsWrongFalsely : Prop := matchCountsRow.holds Tryz.pinned (OpenSpec.ofChange matchCountsWrong)

/-- 'beaglelaw17.MatchBest': WHATEVER THE INPUT: true; the input reads as it did. -/
def matchBestSpec : ChangeSpec := { name := "matchBest", fn := fun _ => fun
  | [d1, d2, d3] => { results := [.lit (.bool true)], args := [d1, d2, d3] }
  | _ => none }
def matchBestRow : OpenClaim := { program := "ytpjldmdbnjodaaagreat", sum := "8511b8f34b3ec3d85e11605d736788e977b8bea05b7109d4a213683585c77796", func := "beagle/beaglelaw17.MatchBest", spec := "matchBest", unfollowed := true, recurses := true, plainKeys := false, apart := false }
def MatchBestSaid : Prop := matchBestRow.holds Tryz.pinned (OpenSpec.ofChange matchBestSpec)

/-- ITS FALSE NEIGHBOUR: 'it returns false'. Refute it at one input. -/
def matchBestWrong : ChangeSpec := { name := "matchBest", fn := fun _ => fun
  | [d1, d2, d3] => { results := [.lit (.bool false)], args := [d1, d2, d3] }
  | _ => none }
def MatchBestWrongFalsely : Prop := matchBestRow.holds Tryz.pinned (OpenSpec.ofChange matchBestWrong)

/-- 'beaglelaw17.MatchWays': WHATEVER THE INPUT: true; the input reads as it did. -/
def matchWaysSpec : ChangeSpec := { name := "matchWays", fn := fun _ => fun
  | [d1, d2, d3] => { results := [.lit (.bool true)], args := [d1, d2, d3] }
  | _ => none }
def matchWaysRow : OpenClaim := { program := "ytpjldmdbnjodaaagreat", sum := "8511b8f34b3ec3d85e11605d736788e977b8bea05b7109d4a213683585c77796", func := "beagle/beaglelaw17.MatchWays", spec := "matchWays", unfollowed := true, recurses := true, plainKeys := false, apart := false }
def MatchWaysSaid : Prop := matchWaysRow.holds Tryz.pinned (OpenSpec.ofChange matchWaysSpec)

/-- ITS FALSE NEIGHBOUR: 'it returns false'. Refute it at one input. -/
def matchWaysWrong : ChangeSpec := { name := "matchWays", fn := fun _ => fun
  | [d1, d2, d3] => { results := [.lit (.bool false)], args := [d1, d2, d3] }
  | _ => none }
def MatchWaysWrongFalsely : Prop := matchWaysRow.holds Tryz.pinned (OpenSpec.ofChange matchWaysWrong)

/-- 'beaglelaw17.MatchHits': WHATEVER THE INPUT: true; the input reads as it did. -/
def matchHitsSpec : ChangeSpec := { name := "matchHits", fn := fun _ => fun
  | [d1, d2, d3] => { results := [.lit (.bool true)], args := [d1, d2, d3] }
  | _ => none }
def matchHitsRow : OpenClaim := { program := "ytpjldmdbnjodaaagreat", sum := "8511b8f34b3ec3d85e11605d736788e977b8bea05b7109d4a213683585c77796", func := "beagle/beaglelaw17.MatchHits", spec := "matchHits", unfollowed := true, recurses := true, plainKeys := false, apart := false }
def MatchHitsSaid : Prop := matchHitsRow.holds Tryz.pinned (OpenSpec.ofChange matchHitsSpec)

/-- ITS FALSE NEIGHBOUR: 'it returns false'. Refute it at one input. -/
def matchHitsWrong : ChangeSpec := { name := "matchHits", fn := fun _ => fun
  | [d1, d2, d3] => { results := [.lit (.bool false)], args := [d1, d2, d3] }
  | _ => none }
def MatchHitsWrongFalsely : Prop := matchHitsRow.holds Tryz.pinned (OpenSpec.ofChange matchHitsWrong)

/-- 'beaglelaw17.MatchPieces': WHATEVER THE INPUT: true; the input reads as it did. -/
def matchPiecesSpec : ChangeSpec := { name := "matchPieces", fn := fun _ => fun
  | [d1, d2, d3] => { results := [.lit (.bool true)], args := [d1, d2, d3] }
  | _ => none }
def matchPiecesRow : OpenClaim := { program := "ytpjldmdbnjodaaagreat", sum := "8511b8f34b3ec3d85e11605d736788e977b8bea05b7109d4a213683585c77796", func := "beagle/beaglelaw17.MatchPieces", spec := "matchPieces", unfollowed := true, recurses := true, plainKeys := false, apart := false }
def MatchPiecesSaid : Prop := matchPiecesRow.holds Tryz.pinned (OpenSpec.ofChange matchPiecesSpec)

/-- ITS FALSE NEIGHBOUR: 'it returns false'. Refute it at one input. -/
def matchPiecesWrong : ChangeSpec := { name := "matchPieces", fn := fun _ => fun
  | [d1, d2, d3] => { results := [.lit (.bool false)], args := [d1, d2, d3] }
  | _ => none }
def MatchPiecesWrongFalsely : Prop := matchPiecesRow.holds Tryz.pinned (OpenSpec.ofChange matchPiecesWrong)

/- THE SECOND FORM. 'bulk': how many values and letters a reading holds, each counted each time it is reached (what is shared counts as often as it is met; a slice's spare places count too). A statement '..UptoSaid' is the law's where the arguments, and the package variables that the reading takes, are together of bulk at most 1048576: NARROWER than '..Said'. Prove '..Said' where nothing that the law and all that it calls make is longer than what came in: it says more and counts as full. Else prove '..UptoSaid'. A law counts once. -/
mutual
def uptoBulk {H : Type} : DataW H → Nat
  | .lit (.string bytes) => bytes.length + 1
  | .lit _ => 1
  | .nil => 1
  | .ptr d => uptoBulk d + 1
  | .slice elems spare => uptoBulkAll elems + uptoBulkAll spare + 1
  | .agg parts => uptoBulkAll parts + 1
  | .iface _ d => uptoBulk d + 1
  | .map entries => uptoBulkEntries entries + 1
  | .held _ => 1
def uptoBulkAll {H : Type} : List (DataW H) → Nat
  | [] => 0
  | d :: r => uptoBulk d + uptoBulkAll r
def uptoBulkEntries {H : Type} : List (Lit × DataW H) → Nat
  | [] => 0
  | x :: r => uptoBulkEntry x + uptoBulkEntries r
def uptoBulkEntry {H : Type} : Lit × DataW H → Nat
  | (.string bytes, d) => bytes.length + uptoBulk d + 1
  | (_, d) => uptoBulk d + 1
 end
def uptoSmall : (H : Type) → List (DataW H) → Bool := fun _ ds => decide (uptoBulkAll ds ≤ 1048576)
def OpenSpec.upto (s : _root_.Go.ChangeSpec) : _root_.Go.OpenSpec := { _root_.Go.OpenSpec.ofChange s with cond := some uptoSmall }

/-- 'beaglelaw17.MatchFinds', WHERE WHAT IT READS IS OF BULK AT MOST 1048576: true; the input reads as it did. -/
def matchFindsUptoRow : OpenClaim := { program := "ytpjldmdbnjodaaagreat", sum := "8511b8f34b3ec3d85e11605d736788e977b8bea05b7109d4a213683585c77796", func := "beagle/beaglelaw17.MatchFinds", spec := "matchFinds", unfollowed := true, recurses := true, plainKeys := false, apart := false, narrowed := true }
def MatchFindsUptoSaid : Prop := matchFindsUptoRow.holds Tryz.pinned (OpenSpec.upto matchFindsSpec)

/-- 'beaglelaw17.MatchCounts', WHERE WHAT IT READS IS OF BULK AT MOST 1048576: true; the input reads as it did. -/
def matchCountsUptoRow : OpenClaim := { program := "ytpjldmdbnjodaaagreat", sum := "8511b8f34b3ec3d85e11605d736788e977b8bea05b7109d4a213683585c77796", func := "beagle/beaglelaw17.MatchCounts", spec := "matchCounts", unfollowed := true, recurses := true, plainKeys := false, apart := false, narrowed := true }
def MatchCountsUptoSaid : Prop := matchCountsUptoRow.holds Tryz.pinned (OpenSpec.upto matchCountsSpec)

/-- 'beaglelaw17.MatchBest', WHERE WHAT IT READS IS OF BULK AT MOST 1048576: true; the input reads as it did. -/
def matchBestUptoRow : OpenClaim := { program := "ytpjldmdbnjodaaagreat", sum := "8511b8f34b3ec3d85e11605d736788e977b8bea05b7109d4a213683585c77796", func := "beagle/beaglelaw17.MatchBest", spec := "matchBest", unfollowed := true, recurses := true, plainKeys := false, apart := false, narrowed := true }
def MatchBestUptoSaid : Prop := matchBestUptoRow.holds Tryz.pinned (OpenSpec.upto matchBestSpec)

/-- 'beaglelaw17.MatchWays', WHERE WHAT IT READS IS OF BULK AT MOST 1048576: true; the input reads as it did. -/
def matchWaysUptoRow : OpenClaim := { program := "ytpjldmdbnjodaaagreat", sum := "8511b8f34b3ec3d85e11605d736788e977b8bea05b7109d4a213683585c77796", func := "beagle/beaglelaw17.MatchWays", spec := "matchWays", unfollowed := true, recurses := true, plainKeys := false, apart := false, narrowed := true }
def MatchWaysUptoSaid : Prop := matchWaysUptoRow.holds Tryz.pinned (OpenSpec.upto matchWaysSpec)

/-- 'beaglelaw17.MatchHits', WHERE WHAT IT READS IS OF BULK AT MOST 1048576: true; the input reads as it did. -/
def matchHitsUptoRow : OpenClaim := { program := "ytpjldmdbnjodaaagreat", sum := "8511b8f34b3ec3d85e11605d736788e977b8bea05b7109d4a213683585c77796", func := "beagle/beaglelaw17.MatchHits", spec := "matchHits", unfollowed := true, recurses := true, plainKeys := false, apart := false, narrowed := true }
def MatchHitsUptoSaid : Prop := matchHitsUptoRow.holds Tryz.pinned (OpenSpec.upto matchHitsSpec)

/-- 'beaglelaw17.MatchPieces', WHERE WHAT IT READS IS OF BULK AT MOST 1048576: true; the input reads as it did. -/
def matchPiecesUptoRow : OpenClaim := { program := "ytpjldmdbnjodaaagreat", sum := "8511b8f34b3ec3d85e11605d736788e977b8bea05b7109d4a213683585c77796", func := "beagle/beaglelaw17.MatchPieces", spec := "matchPieces", unfollowed := true, recurses := true, plainKeys := false, apart := false, narrowed := true }
def MatchPiecesUptoSaid : Prop := matchPiecesUptoRow.holds Tryz.pinned (OpenSpec.upto matchPiecesSpec)

end Rows
end Go.Proofs.YtpjldmdbnjodaaaGreat
