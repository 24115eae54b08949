/- Arguments as they come in: a piece of a text, and a size: a struct of three ints. -/
import Derived.Test.YtpjldmdbnjodaaaGreatBunO
import Derived.Lib.SmallJoins
namespace Go.Proofs.YtpjldmdbnjodaaaGreat
open Go.ChangeShapes Go.WideShapes Go.ChangeAt Go.RowKit
set_option linter.unusedVariables false
section
variable {H : Type} {enc : TypeId × Value → H} {W : World} {base : Nat} {spare : Nat → Bool} {held : Bool}
set_option maxRecDepth 100000 in
theorem open_cut17 {fuel : Nat} {cs : List Value} {x : DataW H × List MemPlace} (h : DataW.trod enc Tryz.prog W base spare held fuel 42 cs = some x) : ∃ a b c : Int, cs = [.int .i64 a, .int .i64 b, .int .i64 c] ∧ (-9223372036854775808 ≤ a ∧ a ≤ 9223372036854775807) ∧ (-9223372036854775808 ≤ b ∧ b ≤ 9223372036854775807) ∧ -9223372036854775808 ≤ c ∧ c ≤ 9223372036854775807 := by
  obtain ⟨xs, m, _, hxx, hl, hx, hi⟩ := DataW.trod_struct Tryz.underlying42 h
  rw [show Tryz.prog.cellsOf 42 = 3 from by kernel_rfl] at hl
  have hx4 : xs.length = 3 := hx
  match cs, hl with
  | [c0, c1, c2], _ =>
    have h0 := hi 0 _ rfl
    have h1 := hi 1 _ rfl
    have h2 := hi 2 _ rfl
    rw [List.getElem?_eq_getElem (by omega)] at h0 h1 h2
    have w1 : Tryz.prog.cellsOf 3 = 1 := by kernel_rfl
    have h0 : DataW.trod enc Tryz.prog W base spare held m 3 [c0] = some xs[0] := by simpa [w1] using h0
    have h1 : DataW.trod enc Tryz.prog W base spare held m 3 [c1] = some xs[1] := by simpa [w1] using h1
    have h2 : DataW.trod enc Tryz.prog W base spare held m 3 [c2] = some xs[2] := by simpa [w1] using h2
    obtain ⟨n0, hn0, _, hw0⟩ := DataW.trod_int Tryz.underlying3 h0
    obtain ⟨n1, hn1, _, hw1⟩ := DataW.trod_int Tryz.underlying3 h1
    obtain ⟨n2, hn2, _, hw2⟩ := DataW.trod_int Tryz.underlying3 h2
    injection hn0 with hn0
    injection hn1 with hn1
    injection hn2 with hn2
    subst hn0 hn1 hn2
    exact ⟨n0, n1, n2, rfl, int_bounds hw0, int_bounds hw1, int_bounds hw2⟩
set_option maxRecDepth 100000 in
theorem openCut17 {v : Value} {d : DataW H} {p : List MemPlace} {r : Reach} {b0 : Nat} (hv : Value.okWide Tryz.prog W r b0 42 v) (h : DataW.Trod enc Tryz.prog W base spare held 42 v d p) : ∃ a b c : Int, v = .agg #[.int .i64 a, .int .i64 b, .int .i64 c] ∧ (-9223372036854775808 ≤ a ∧ a ≤ 9223372036854775807) ∧ (-9223372036854775808 ≤ b ∧ b ≤ 9223372036854775807) ∧ -9223372036854775808 ≤ c ∧ c ≤ 9223372036854775807 := by
  obtain ⟨cs, rfl, hs⟩ := okWide_struct Tryz.underlying42 hv
  obtain ⟨fuel, hf⟩ := h
  obtain ⟨a, b, c, hy, hb⟩ := open_cut17 hf
  refine ⟨a, b, c, ?_, hb⟩
  have : cs = #[.int .i64 a, .int .i64 b, .int .i64 c] := by
    simp only [Value.cells] at hy
    have := congrArg List.toArray hy
    simpa using this
  rw [this]
end
end Go.Proofs.YtpjldmdbnjodaaaGreat
