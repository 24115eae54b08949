/- Arguments as they come in: what the walks are told of them. -/
import Derived.Test.YtpndjehiacmngaaRows
import Derived.Test.YtpndjehiacmngaaLib
import Derived.ProofKit
import Derived.OpenShut
import Derived.ShutString
import Derived.ChangeOld
import Derived.SizedLaws
import Derived.Deep.Grids
namespace Go.Proofs.Ytpndjehiacmngaa
open Go.ChangeShapes Go.WideShapes Go.ChangeAt Go.RowKit
open Go.ChangeMaps (open_string shut_string)

theorem rowOwn : ownKnob Try.prog.godebug = none := by kernel_rfl
theorem rowLaid : laidOutB Try.prog = true := by kernel_rfl

theorem int_bounds {x : Int} (h : (Lit.int .i64 x).wf = true) : -9223372036854775808 ≤ x ∧ x ≤ 9223372036854775807 := by
  have h1 : IntKind.i64.min ≤ x ∧ x ≤ 9223372036854775807 := by simpa [Lit.wf] using h
  exact ⟨h1.1, h1.2⟩

theorem openInts {H : Type} {enc : TypeId × Value → H} {W : World} {A : Option Addr} {n c : Nat} {d : DataW H} {p : List MemPlace} {ts : List TypeId} {ds : List (DataW H)} {j : Nat}
    (h : DataW.Trod enc Try.prog W 0 (fun _ => true) true 46 (.slice A n c) d p)
    (hsz : (DataW.weightsEach Try.prog ts ds).all (· ≤ reachBytes) = true) (ht : ts[j]? = some 46) (hd : ds[j]? = some d) :
    ∃ xs : List Int, IntsAt (fun k => k < W.heap.size) W A n c xs ∧ n * 8 ≤ 140737488351232 ∧ ∀ x ∈ xs, -9223372036854775808 ≤ x ∧ x ≤ 9223372036854775807 := by
  obtain ⟨fuel, hf⟩ := h
  rcases open_ints Try.underlying46 Try.underlying3 (by kernel_rfl) hf with ⟨hcs, hx⟩ | ⟨x, l, c', zs, hcs, _, hl, hm, hz, hx, hcell, hwz⟩
  · simp [Value.cells] at hcs
    obtain ⟨rfl, rfl, rfl⟩ := hcs
    exact ⟨[], ElsAt.nil _ _, by omega, fun _ h => by simp at h⟩
  · simp [Value.cells] at hcs
    obtain ⟨rfl, rfl, rfl⟩ := hcs
    simp only [if_true] at hz
    unfold maxLen at hm
    have hd' : d = .slice (lits .i64 (zs.take n)) (lits .i64 (zs.drop n)) := by injection hx
    have hb := sized_slice hsz (j := j) (t := 46) (e := 3) ht (hd.trans (by rw [hd'])) Try.underlying46
    have hB : Try.prog.bytesOf 3 = 8 := by kernel_rfl
    rw [hB] at hb
    simp only [lits, List.length_map, List.length_take, List.length_drop, reachBytes] at hb
    refine ⟨zs.take n, ⟨(fun h => by cases h), hl, by omega, by simp; omega, fun hn => ?_⟩, by omega, fun x hx => int_bounds (hwz x (List.mem_of_mem_take hx))⟩
    obtain ⟨g, o, rfl, hc⟩ := ints_at hcell (by omega)
    refine ⟨g, o, rfl, World.block_lt_of_cell? W ⟨g, o + 0, none⟩ (hc 0 (by omega)), World.block_lt_of_cell? W ⟨g, o + 0, none⟩ (hc 0 (by omega)), fun j hj => ?_⟩
    rw [hc j (by omega)]
    simp [List.getD, hj]

theorem openBools {H : Type} {enc : TypeId × Value → H} {W : World} {A : Option Addr} {n c : Nat} {d : DataW H} {p : List MemPlace} {ts : List TypeId} {ds : List (DataW H)} {j : Nat}
    (h : DataW.Trod enc Try.prog W 0 (fun _ => true) true 82 (.slice A n c) d p)
    (hsz : (DataW.weightsEach Try.prog ts ds).all (· ≤ reachBytes) = true) (ht : ts[j]? = some 82) (hd : ds[j]? = some d) :
    ∃ xs : List Bool, BoolsAt (fun k => k < W.heap.size) W A n c xs ∧ n ≤ 140737488351232 := by
  obtain ⟨fuel, hf⟩ := h
  rcases Deep.open_bools Try.underlying82 Try.underlying4 (by kernel_rfl) hf with ⟨hcs, hx⟩ | ⟨x, l, c', B, hcs, _, hl, hm, hx, hcell⟩
  · simp [Value.cells] at hcs
    obtain ⟨rfl, rfl, rfl⟩ := hcs
    exact ⟨[], ElsAt.nil _ _, by omega⟩
  · simp [Value.cells] at hcs
    obtain ⟨rfl, rfl, rfl⟩ := hcs
    unfold maxLen at hm
    have hd' : d = Deep.boolRow (some x) n c B := by injection hx
    unfold Deep.boolRow at hd'
    have hb := sized_slice hsz (j := j) (t := 82) (e := 4) ht (hd.trans (by rw [hd'])) Try.underlying82
    have hB : Try.prog.bytesOf 4 = 1 := by kernel_rfl
    rw [hB] at hb
    simp only [List.length_map, List.length_range, reachBytes] at hb
    refine ⟨(List.range n).map B, ⟨(fun h => by cases h), hl, by omega, by simp, fun hn => ?_⟩, by omega⟩
    obtain ⟨g, o, spot⟩ := x
    have hspot : spot = none := by simpa [Addr.add] using World.cell?_spot (hcell 0 (by omega))
    subst hspot
    have hc : ∀ i, i < c → W.cell? ⟨g, o + i, none⟩ = some (.bool (B i)) := fun i hi => by rw [← Go.WideShapes.add_plain]; exact hcell i hi
    refine ⟨g, o, rfl, World.block_lt_of_cell? W ⟨g, o + 0, none⟩ (hc 0 (by omega)), World.block_lt_of_cell? W ⟨g, o + 0, none⟩ (hc 0 (by omega)), fun j hj => ?_⟩
    rw [hc j (by omega)]
    simp [hj]
end Go.Proofs.Ytpndjehiacmngaa
