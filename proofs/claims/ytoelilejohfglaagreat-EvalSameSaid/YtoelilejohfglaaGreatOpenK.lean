/- Arguments as they come in: how a query is searched, a struct of two ints. -/
import Derived.Test.YtoelilejohfglaaGreatBunO
import Derived.Lib.SmallJoins
set_option maxHeartbeats 16000000
set_option maxRecDepth 100000
namespace Go.Proofs.YtoelilejohfglaaGreat
open Go.RowKit
set_option linter.unusedVariables false
set_option linter.unusedSimpArgs false
open Go.ChangeShapes Go.WideShapes Go.ChangeAt Go.RowKit
section
variable {H : Type} {enc : TypeId × Value → H} {W : World} {base : Nat} {spare : Nat → Bool} {held : Bool}
theorem open_cfg {fuel : Nat} {cs : List Value} {x : DataW H × List MemPlace} (h : DataW.trod enc Tryz.prog W base spare held fuel 24 cs = some x) : ∃ a b : Int, cs = [.int .i64 a, .int .i64 b] ∧ (-9223372036854775808 ≤ a ∧ a ≤ 9223372036854775807) ∧ -9223372036854775808 ≤ b ∧ b ≤ 9223372036854775807 := by
 obtain ⟨xs, m, _, hxx, hl, hx, hi⟩ := DataW.trod_struct Tryz.underlying24 h
 rw [show Tryz.prog.cellsOf 24 = 2 from by kernel_rfl] at hl
 have hx4 : xs.length = 2 := hx
 match cs, hl with
 | [c0, c1], _ =>
  have h0 := hi 0 _ rfl
  have h1 := hi 1 _ rfl
  rw [List.getElem?_eq_getElem (by omega)] at h0 h1
  have w1 : Tryz.prog.cellsOf 3 = 1 := by kernel_rfl
  have h0 : DataW.trod enc Tryz.prog W base spare held m 3 [c0] = some xs[0] := by simpa [w1] using h0
  have h1 : DataW.trod enc Tryz.prog W base spare held m 3 [c1] = some xs[1] := by simpa [w1] using h1
  obtain ⟨n0, hn0, _, hw0⟩ := DataW.trod_int Tryz.underlying3 h0
  obtain ⟨n1, hn1, _, hw1⟩ := DataW.trod_int Tryz.underlying3 h1
  injection hn0 with hn0
  injection hn1 with hn1
  subst hn0 hn1
  exact ⟨n0, n1, rfl, int_bounds hw0, int_bounds hw1⟩
theorem openCfg {v : Value} {d : DataW H} {p : List MemPlace} {r : Reach} {b0 : Nat} (hv : Value.okWide Tryz.prog W r b0 24 v) (h : DataW.Trod enc Tryz.prog W base spare held 24 v d p) : ∃ a b : Int, v = .agg #[.int .i64 a, .int .i64 b] ∧ (-9223372036854775808 ≤ a ∧ a ≤ 9223372036854775807) ∧ -9223372036854775808 ≤ b ∧ b ≤ 9223372036854775807 := by
 obtain ⟨cs, rfl, hs⟩ := okWide_struct Tryz.underlying24 hv
 obtain ⟨fuel, hf⟩ := h
 obtain ⟨a, b, hy, hb⟩ := open_cfg hf
 refine ⟨a, b, ?_, hb⟩
 have : cs = #[.int .i64 a, .int .i64 b] := by
  simp only [Value.cells] at hy
  have := congrArg List.toArray hy
  simpa using this
 rw [this]
end
end Go.Proofs.YtoelilejohfglaaGreat
