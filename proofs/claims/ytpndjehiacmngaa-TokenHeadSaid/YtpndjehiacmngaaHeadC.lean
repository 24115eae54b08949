/- Layer 13: the law TokenHead. -/
import Derived.Test.YtpndjehiacmngaaHeadB
import Derived.Test.YtpndjehiacmngaaAliB
namespace Go.Proofs.Ytpndjehiacmngaa
open Go.RowKit
theorem TokenHead_walk (s more : ByteArray) (w : World) (hs : s.size ≤ 140737488351232) (hm : more.size ≤ 140737488351232) :
    Calls Try.prog 8 #[.string s, .string more] w fun e w' => e = .returned (.bool true) ∧ Chg Nothing w w' := TokenHead_of alive_any s more w hs hm
end Go.Proofs.Ytpndjehiacmngaa
