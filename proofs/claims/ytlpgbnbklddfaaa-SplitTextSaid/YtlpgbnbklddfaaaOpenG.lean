/- Arguments as they come in: pairs of strings. -/
import Derived.Test.YtlpgbnbklddfaaaBunO
import Derived.Test.YtlpgbnbklddfaaaBunA
import Derived.Lib.SmallJoins
namespace Go.Proofs.Ytlpgbnbklddfaaa
open Go.ChangeShapes Go.WideShapes Go.ChangeAt Go.RowKit
set_option linter.unusedVariables false
section
variable {H : Type} {enc : TypeId × Value → H} {W : World} {base : Nat} {spare : Nat → Bool} {held : Bool}
set_option maxRecDepth 100000 in
theorem open_pairS {fuel : Nat} {cs : List Value} {x : DataW H × List MemPlace} (h : DataW.trod enc Try.prog W base spare held fuel 45 cs = some x) (hsd : Sized Try.prog 45 x.1) : ∃ a b : ByteArray, cs = [.string a, .string b] ∧ a.size ≤ 140737488351232 ∧ b.size ≤ 140737488351232 := by
  obtain ⟨xs, m, _, hxx, hl, hx, hi⟩ := DataW.trod_array Try.underlying45 h
  rw [show Try.prog.cellsOf 45 = 2 from by kernel_rfl] at hl
  match cs, hl with
  | [c0, c1], _ =>
    have hw : Try.prog.cellsOf 9 = 1 := by kernel_rfl
    have key : ∀ i c, i < 2 → ([c0, c1].drop (i * 1)).take 1 = [c] → ∃ n : ByteArray, c = .string n ∧ n.size ≤ 140737488351232 := by
      intro i c hi4 e
      have h1 := hi i hi4
      rw [hw, e, List.getElem?_eq_getElem (by omega)] at h1
      obtain ⟨n, hn, hz, _⟩ := DataW.trod_string Try.underlying9 h1
      injection hn with hn
      refine ⟨n, hn, ?_⟩
      have h2 := hsd n.data.toList.length (by
        rw [hxx]
        simp only [DataW.weights, Try.underlying45]
        refine weights_mem_all (d := (xs[i]'(by omega)).1) (List.mem_map_of_mem (List.getElem_mem _)) _ ?_
        rw [hz]
        simp [DataW.weights])
      simpa [reachBytes] using h2
    obtain ⟨n0, rfl, b0⟩ := key 0 c0 (by decide) rfl
    obtain ⟨n1, rfl, b1⟩ := key 1 c1 (by decide) rfl
    exact ⟨n0, n1, rfl, b0, b1⟩
set_option maxRecDepth 100000 in
theorem openPairS {v : Value} {d : DataW H} {p : List MemPlace} {r : Reach} {b0 : Nat} (hv : Value.okWide Try.prog W r b0 45 v) (h : DataW.Trod enc Try.prog W base spare held 45 v d p) (hw : Sized Try.prog 45 d) : ∃ a b : ByteArray, v = .agg #[.string a, .string b] ∧ a.size ≤ 140737488351232 ∧ b.size ≤ 140737488351232 := by
  simp only [Value.okWide, Try.underlying45] at hv
  obtain ⟨cs, rfl, hs, _⟩ := hv
  obtain ⟨fuel, hf⟩ := h
  obtain ⟨a, b, hy, hb⟩ := open_pairS hf hw
  refine ⟨a, b, ?_, hb⟩
  have : cs = #[.string a, .string b] := by
    simp only [Value.cells] at hy
    have := congrArg List.toArray hy
    simpa using this
  rw [this]
end
end Go.Proofs.Ytlpgbnbklddfaaa
