/- Arguments as they come in: pairs of how a query is searched. -/
import Derived.Test.YtoelilejohfglaaGreatOpenK
import Derived.Test.YtoelilejohfglaaGreatBunO
import Derived.Lib.SmallJoins
set_option maxHeartbeats 16000000
set_option maxRecDepth 100000
namespace Go.Proofs.YtoelilejohfglaaGreat
open Go.RowKit
set_option linter.unusedVariables false
set_option linter.unusedSimpArgs false
open Go.ChangeShapes Go.WideShapes Go.ChangeAt Go.RowKit
section
variable {H : Type} {enc : TypeId × Value → H} {W : World} {base : Nat} {spare : Nat → Bool} {held : Bool}
def I64 (a : Int) : Prop := -9223372036854775808 ≤ a ∧ a ≤ 9223372036854775807
theorem open_cfgs {fuel : Nat} {cs : List Value} {x : DataW H × List MemPlace} (h : DataW.trod enc Tryz.prog W base spare held fuel 51 cs = some x) : ∃ a b c d : Int, cs = [.int .i64 a, .int .i64 b, .int .i64 c, .int .i64 d] ∧ (I64 a ∧ I64 b) ∧ I64 c ∧ I64 d := by
 obtain ⟨xs, m, _, _, hl, hx, hi⟩ := DataW.trod_array Tryz.underlying51 h
 rw [show Tryz.prog.cellsOf 51 = 4 from by kernel_rfl] at hl
 match cs, hl with
 | [c0, c1, c2, c3], _ =>
  have hw : Tryz.prog.cellsOf 24 = 2 := by kernel_rfl
  have key : ∀ i, i < 2 → ∃ a b : Int, ([c0, c1, c2, c3].drop (i * 2)).take 2 = [.int .i64 a, .int .i64 b] ∧ I64 a ∧ I64 b := by
   intro i hi4
   have h1 := hi i hi4
   rw [hw, List.getElem?_eq_getElem (by omega)] at h1
   obtain ⟨a, b, e, h2, h3⟩ := open_cfg h1
   exact ⟨a, b, e, h2, h3⟩
  obtain ⟨a, b, e, h2, h3⟩ := key 0 (by decide)
  obtain ⟨c, d, e', h4, h5⟩ := key 1 (by decide)
  have e1 : [c0, c1] = [Value.int .i64 a, .int .i64 b] := e
  have e2 : [c2, c3] = [Value.int .i64 c, .int .i64 d] := e'
  injection e1 with f1 f2
  injection f2 with f2 _
  injection e2 with f3 f4
  injection f4 with f4 _
  subst f1 f2 f3 f4
  exact ⟨a, b, c, d, rfl, ⟨h2, h3⟩, h4, h5⟩
theorem openCfgs {v : Value} {d : DataW H} {p : List MemPlace} {r : Reach} {b0 : Nat} (hv : Value.okWide Tryz.prog W r b0 51 v) (h : DataW.Trod enc Tryz.prog W base spare held 51 v d p) : ∃ a b c d : Int, v = .agg #[.int .i64 a, .int .i64 b, .int .i64 c, .int .i64 d] ∧ (I64 a ∧ I64 b) ∧ I64 c ∧ I64 d := by
 simp only [Value.okWide, Tryz.underlying51] at hv
 obtain ⟨cs, rfl, hs, _⟩ := hv
 obtain ⟨fuel, hf⟩ := h
 obtain ⟨a, b, c, e, hy, hb⟩ := open_cfgs hf
 refine ⟨a, b, c, e, ?_, hb⟩
 have : cs = #[.int .i64 a, .int .i64 b, .int .i64 c, .int .i64 e] := by
  simp only [Value.cells] at hy
  have := congrArg List.toArray hy
  simpa using this
 rw [this]
end
end Go.Proofs.YtoelilejohfglaaGreat
