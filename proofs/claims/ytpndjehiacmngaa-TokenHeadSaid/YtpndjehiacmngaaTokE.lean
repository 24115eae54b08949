/- The program's test by strings.IndexByte is the document's `in`. -/
import Derived.Test.YtpndjehiacmngaaTokD
import Derived.Lib.IndexAny
namespace Go.Proofs.Ytpndjehiacmngaa
open Go.RowKit

theorem in_index (s : ByteArray) (b : Nat) (hb : b < 256) : decide (0 ≤ Lib.indexByte s.data.toList ((b : Int).toNat.toUInt8)) = inS s b := by
  rw [← Lib.contains_iff_indexByte]
  unfold inS
  rw [List.contains_eq_any_beq]
  congr 1
  funext x
  rw [Bool.eq_iff_iff]
  simp only [beq_iff_eq, Int.toNat_natCast, ← UInt8.toNat_inj]
  have : (Nat.toUInt8 b).toNat = b := by simp [Nat.toUInt8]; omega
  rw [this]
  exact eq_comm
end Go.Proofs.Ytpndjehiacmngaa
