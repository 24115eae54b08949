/- Arguments as they come in: nodes, rows of nodes, with their sizes. -/
import Derived.Test.YtoelilejohfglaaGreatBunO
import Derived.Test.YtoelilejohfglaaGreatBunI
import Derived.Lib.SmallJoins
set_option maxHeartbeats 16000000
set_option maxRecDepth 100000
namespace Go.Proofs.YtoelilejohfglaaGreat
open Go.RowKit
set_option linter.unusedVariables false
set_option linter.unusedSimpArgs false
open Go.ChangeShapes Go.WideShapes Go.ChangeAt Go.RowKit
section
variable {H : Type} {enc : TypeId × Value → H} {W : World} {base : Nat} {spare : Nat → Bool} {held : Bool}
theorem open_node {fuel : Nat} {cs : List Value} {x : DataW H × List MemPlace} (h : DataW.trod enc Tryz.prog W base spare held fuel 55 cs = some x) (hw : Sized Tryz.prog 55 x.1) :
  ∃ p : NP, cs = ndL p ∧ NRead (fun k => k < W.heap.size) W p ∧ p.l * 32 ≤ reachBytes := by
 obtain ⟨xs, m, _, hxx, hl, hx, hi⟩ := DataW.trod_struct Tryz.underlying55 h
 rw [show Tryz.prog.cellsOf 55 = 4 from by kernel_rfl] at hl
 have hx4 : xs.length = 3 := hx
 subst hxx
 match cs, hl with
 | [c0, c1, c2, c3], _ =>
  have h0 := hi 0 _ rfl
  have h1 := hi 1 _ rfl
  have h2 := hi 2 _ rfl
  rw [List.getElem?_eq_getElem (by omega)] at h0 h1 h2
  have w1 : Tryz.prog.cellsOf 3 = 1 := by kernel_rfl
  have w2 : Tryz.prog.cellsOf 34 = 2 := by kernel_rfl
  have h0 : DataW.trod enc Tryz.prog W base spare held m 3 [c0] = some xs[0] := by simpa [w1] using h0
  have h1 : DataW.trod enc Tryz.prog W base spare held m 3 [c1] = some xs[1] := by simpa [w1] using h1
  have h2 : DataW.trod enc Tryz.prog W base spare held m 34 [c2, c3] = some xs[2] := by simpa [w2] using h2
  have hs2 : Sized Tryz.prog 34 xs[2].1 := Sized.part Tryz.underlying55 hw (j := 2) rfl (by rw [List.getElem?_map, List.getElem?_eq_getElem (by omega)]; rfl)
  obtain ⟨n0, hn0, _, _⟩ := DataW.trod_int Tryz.underlying3 h0
  obtain ⟨n1, hn1, _, _⟩ := DataW.trod_int Tryz.underlying3 h1
  obtain ⟨q, hq, hr⟩ := open_leaf h2 hs2
  injection hn0 with hn0
  injection hn1 with hn1
  unfold lzL at hq
  injection hq with hq hq2
  injection hq2 with hq2
  subst hn0 hn1 hq hq2
  exact ⟨⟨⟨n0, n1, q.p, q.K⟩, q.A, q.l, q.c⟩, rfl, ⟨hr.row, hr.len⟩, hr.few⟩
theorem open_nodes {fuel : Nat} {cs : List Value} {x : DataW H × List MemPlace} (h : DataW.trod enc Tryz.prog W base spare held fuel 22 cs = some x) (hw : Sized Tryz.prog 22 x.1) :
  ∃ (A : Option Addr) (n c : Nat) (ps : List NP), cs = [.slice A n c] ∧ NRow (fun k => k < W.heap.size) W A n c ps ∧ (∀ p ∈ ps, p.l * 32 ≤ 140737488351232) ∧ n * 48 ≤ 140737488351232 := by
 obtain ⟨A, n, c, vs, rfl, hl, hv, hr, hb⟩ := open_row_sized Tryz.underlying22 (sz := 4) (by kernel_rfl) (by decide) h hw (fun cs => ∃ p : NP, cs = ndL p ∧ NRead (fun k => k < W.heap.size) W p ∧ p.l * 32 ≤ reachBytes) (fun n cs y hy hs _ => open_node hy hs)
 obtain ⟨ps, rfl, hps⟩ := list_of ndL (fun p => NRead (fun k => k < W.heap.size) W p ∧ p.l * 32 ≤ reachBytes) vs (fun v hv' => by obtain ⟨y, hy, h1⟩ := (hv v hv').2; exact ⟨y, hy, h1⟩)
 have hB : Tryz.prog.bytesOf 55 = 48 := by kernel_rfl
 rw [hB] at hb
 rw [List.flatMap_map] at hr
 refine ⟨A, n, c, ps, rfl, ⟨by simpa using hl, hr, fun p hp => (hps p hp).1⟩, fun p hp => (hps p hp).2, hb⟩
end
end Go.Proofs.YtoelilejohfglaaGreat
