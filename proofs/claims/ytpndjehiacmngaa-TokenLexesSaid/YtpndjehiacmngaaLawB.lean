/- Layer 13: the law TokenLexes. -/
import Derived.Test.YtpndjehiacmngaaLawA
import Derived.Test.YtpndjehiacmngaaAliB
namespace Go.Proofs.Ytpndjehiacmngaa
open Go.RowKit
theorem TokenLexes_walk (s : ByteArray) (w : World) (hs : s.size ≤ 140737488351232) :
    Calls Try.prog 3 #[.string s] w fun e w' => e = .returned (.bool true) ∧ Chg Nothing w w' := TokenLexes_of alive_any s w hs
end Go.Proofs.Ytpndjehiacmngaa
