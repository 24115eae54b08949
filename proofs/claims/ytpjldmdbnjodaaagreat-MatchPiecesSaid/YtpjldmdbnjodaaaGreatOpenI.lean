/- Arguments as they come in: pairs of what layer 17 asks. -/
import Derived.Test.YtpjldmdbnjodaaaGreatOpenH
import Derived.Test.YtpjldmdbnjodaaaGreatBunO
import Derived.Lib.SmallJoins
namespace Go.Proofs.YtpjldmdbnjodaaaGreat
open Go.ChangeShapes Go.WideShapes Go.ChangeAt Go.RowKit
set_option linter.unusedVariables false
section
variable {H : Type} {enc : TypeId × Value → H} {W : World} {base : Nat} {spare : Nat → Bool} {held : Bool}
def I64 (a : Int) : Prop := -9223372036854775808 ≤ a ∧ a ≤ 9223372036854775807
set_option maxRecDepth 100000 in
theorem open_asks17 {fuel : Nat} {cs : List Value} {x : DataW H × List MemPlace} (h : DataW.trod enc Tryz.prog W base spare held fuel 38 cs = some x) : ∃ a b c d : Int, cs = [.int .i64 a, .int .i64 b, .int .i64 c, .int .i64 d] ∧ (I64 a ∧ I64 b) ∧ I64 c ∧ I64 d := by
  obtain ⟨xs, m, _, _, hl, hx, hi⟩ := DataW.trod_array Tryz.underlying38 h
  rw [show Tryz.prog.cellsOf 38 = 4 from by kernel_rfl] at hl
  match cs, hl with
  | [c0, c1, c2, c3], _ =>
    have hw : Tryz.prog.cellsOf 26 = 2 := by kernel_rfl
    have key : ∀ i, i < 2 → ∃ a b : Int, ([c0, c1, c2, c3].drop (i * 2)).take 2 = [.int .i64 a, .int .i64 b] ∧ I64 a ∧ I64 b := by
      intro i hi4
      have h1 := hi i hi4
      rw [hw, List.getElem?_eq_getElem (by omega)] at h1
      obtain ⟨a, b, e, h2, h3⟩ := open_ask17 h1
      exact ⟨a, b, e, h2, h3⟩
    obtain ⟨a, b, e, h2, h3⟩ := key 0 (by decide)
    obtain ⟨c, d, e', h4, h5⟩ := key 1 (by decide)
    have e1 : [c0, c1] = [Value.int .i64 a, .int .i64 b] := e
    have e2 : [c2, c3] = [Value.int .i64 c, .int .i64 d] := e'
    injection e1 with f1 f2
    injection f2 with f2 _
    injection e2 with f3 f4
    injection f4 with f4 _
    subst f1 f2 f3 f4
    exact ⟨a, b, c, d, rfl, ⟨h2, h3⟩, h4, h5⟩
set_option maxRecDepth 100000 in
theorem openAsks17 {v : Value} {d : DataW H} {p : List MemPlace} {r : Reach} {b0 : Nat} (hv : Value.okWide Tryz.prog W r b0 38 v) (h : DataW.Trod enc Tryz.prog W base spare held 38 v d p) : ∃ a b c d : Int, v = .agg #[.int .i64 a, .int .i64 b, .int .i64 c, .int .i64 d] ∧ (I64 a ∧ I64 b) ∧ I64 c ∧ I64 d := by
  simp only [Value.okWide, Tryz.underlying38] at hv
  obtain ⟨cs, rfl, hs, _⟩ := hv
  obtain ⟨fuel, hf⟩ := h
  obtain ⟨a, b, c, e, hy, hb⟩ := open_asks17 hf
  refine ⟨a, b, c, e, ?_, hb⟩
  have : cs = #[.int .i64 a, .int .i64 b, .int .i64 c, .int .i64 e] := by
    simp only [Value.cells] at hy
    have := congrArg List.toArray hy
    simpa using this
  rw [this]
end
end Go.Proofs.YtpjldmdbnjodaaaGreat
