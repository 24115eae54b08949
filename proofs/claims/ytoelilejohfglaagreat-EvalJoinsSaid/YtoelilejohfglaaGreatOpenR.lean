/- Arguments as they come in: rows of ints, and rows of them, with their sizes. -/
import Derived.Test.YtoelilejohfglaaGreatBunO
import Derived.Test.YtoelilejohfglaaGreatBnJn
set_option maxHeartbeats 16000000
set_option maxRecDepth 100000
namespace Go.Proofs.YtoelilejohfglaaGreat
open Go.RowKit
set_option linter.unusedVariables false
set_option linter.unusedSimpArgs false
open Go.ChangeShapes Go.WideShapes Go.ChangeAt Go.RowKit
theorem els_of_row1 {α : Type} {enc : α → Value} {d : α} {F : Nat → Prop} {w : World} {A : Option Addr} {n c : Nat} {xs : List α} (hl : xs.length = n) (h : RowAt 1 F w A n c (xs.map enc)) : ElsAt enc d F w A n c xs := by
 refine ⟨h.nil, h.le, h.max, hl, fun hn => ?_⟩
 obtain ⟨g, o, e, hg, hlt, hc⟩ := h.cells hn
 refine ⟨g, o, e, hg, hlt, fun j hj => ?_⟩
 rw [hc j (by omega)]
 have : j < xs.length := by omega
 simp [this]
section
variable {H : Type} {enc : TypeId × Value → H} {W : World} {base : Nat} {spare : Nat → Bool} {held : Bool}
theorem open_ints_sized {fuel : Nat} {cs : List Value} {x : DataW H × List MemPlace} (h : DataW.trod enc Tryz.prog W base spare held fuel 37 cs = some x) (hw : Sized Tryz.prog 37 x.1) :
    ∃ q : RP, cs = [rpV q] ∧ RIn (fun k => k < W.heap.size) W q ∧ q.l * 8 ≤ 140737488351232 ∧ ∀ z ∈ q.xs, -9223372036854775808 ≤ z ∧ z ≤ 9223372036854775807 := by
  obtain ⟨A, n, c, vs, rfl, hl, hv, hr, hb⟩ := open_row_sized Tryz.underlying37 (sz := 1) (by kernel_rfl) (by decide) h hw (fun cs => ∃ z : Int, cs = [.int .i64 z] ∧ -9223372036854775808 ≤ z ∧ z ≤ 9223372036854775807) (fun n cs y hy _ hcl => by
    match cs, hcl with
    | [c0], _ =>
      obtain ⟨n0, hn0, _, hw0⟩ := DataW.trod_int Tryz.underlying3 hy
      injection hn0 with hn0
      subst hn0
      exact ⟨n0, rfl, by have h1 : IntKind.i64.min ≤ n0 ∧ n0 ≤ 9223372036854775807 := by simpa [Lit.wf] using hw0
                         exact ⟨h1.1, h1.2⟩⟩)
  obtain ⟨xs, rfl, hxs⟩ := list_of (fun z : Int => [Value.int .i64 z]) (fun z => -9223372036854775808 ≤ z ∧ z ≤ 9223372036854775807) vs (fun v hv' => by obtain ⟨y, hy, h1⟩ := (hv v hv').2; exact ⟨y, hy, h1⟩)
  have hB : Tryz.prog.bytesOf 3 = 8 := by kernel_rfl
  rw [hB] at hb
  have e : (xs.map fun z : Int => [Value.int .i64 z]).flatMap id = xs.map (Value.int .i64) := by rw [List.flatMap_map]; clear hxs hv hl hr; induction xs with
    | nil => rfl
    | cons a t ih => rw [List.flatMap_cons, List.map_cons, ih]; rfl
  rw [e] at hr
  exact ⟨⟨xs, A, n, c⟩, rfl, els_of_row1 (by simpa using hl) hr, hb, hxs⟩
theorem open_rows {fuel : Nat} {cs : List Value} {x : DataW H × List MemPlace} (h : DataW.trod enc Tryz.prog W base spare held fuel 43 cs = some x) (hw : Sized Tryz.prog 43 x.1) :
  ∃ (A : Option Addr) (n c : Nat) (qs : List RP), cs = [.slice A n c] ∧ RRow (fun k => k < W.heap.size) (fun k => k < W.heap.size) W A n c qs ∧ (∀ q ∈ qs, q.l * 8 ≤ 140737488351232 ∧ ∀ z ∈ q.xs, -9223372036854775808 ≤ z ∧ z ≤ 9223372036854775807) ∧ n * 24 ≤ 140737488351232 := by
 obtain ⟨A, n, c, vs, rfl, hl, hv, hr, hb⟩ := open_row_sized Tryz.underlying43 (sz := 1) (by kernel_rfl) (by decide) h hw (fun cs => ∃ q : RP, cs = [rpV q] ∧ RIn (fun k => k < W.heap.size) W q ∧ q.l * 8 ≤ 140737488351232 ∧ ∀ z ∈ q.xs, -9223372036854775808 ≤ z ∧ z ≤ 9223372036854775807) (fun n cs y hy hs _ => open_ints_sized hy hs)
 obtain ⟨qs, rfl, hqs⟩ := list_of (fun q : RP => [rpV q]) (fun q => RIn (fun k => k < W.heap.size) W q ∧ q.l * 8 ≤ 140737488351232 ∧ ∀ z ∈ q.xs, -9223372036854775808 ≤ z ∧ z ≤ 9223372036854775807) vs (fun v hv' => by obtain ⟨y, hy, h1⟩ := (hv v hv').2; exact ⟨y, hy, h1⟩)
 have hB : Tryz.prog.bytesOf 37 = 24 := by kernel_rfl
 rw [hB] at hb
 have e : (qs.map fun q : RP => [rpV q]).flatMap id = qs.map rpV := by rw [List.flatMap_map]; clear hqs hv hl hr; induction qs with
  | nil => rfl
  | cons a t ih => rw [List.flatMap_cons, List.map_cons, ih]; rfl
 rw [e] at hr
 exact ⟨A, n, c, qs, rfl, ⟨els_of_row1 (by simpa using hl) hr, fun q hq => (hqs q hq).1⟩, fun q hq => (hqs q hq).2, hb⟩
end
end Go.Proofs.YtoelilejohfglaaGreat
