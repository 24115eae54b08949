/- Joined texts: Open OpenB OpenL. -/
import Derived.Test.YtoelilejohfglaaGreatRows
import Derived.Test.YtoelilejohfglaaGreatBunA
import Derived.ProofKit
import Derived.OpenShut
import Derived.ShutString
import Derived.ChangeOld
import Derived.SizedLaws
import Derived.Deep.Grids
import Derived.Test.YtoelilejohfglaaGreatBunF
import Derived.Lib.SmallJoins
set_option maxHeartbeats 16000000
set_option maxRecDepth 100000
namespace Go.Proofs.YtoelilejohfglaaGreat
open Go.RowKit
set_option linter.unusedVariables false
set_option linter.unusedSimpArgs false
open Go.ChangeShapes Go.WideShapes Go.ChangeAt Go.RowKit
open Go.ChangeMaps (open_string shut_string)
theorem rowOwn : ownKnob Tryz.prog.godebug = none := by kernel_rfl
theorem rowLaid : laidOutB Tryz.prog = true := by kernel_rfl
theorem int_bounds {x : Int} (h : (Lit.int .i64 x).wf = true) : -9223372036854775808 ≤ x ∧ x ≤ 9223372036854775807 := by
 have h1 : IntKind.i64.min ≤ x ∧ x ≤ 9223372036854775807 := by simpa [Lit.wf] using h
 exact ⟨h1.1, h1.2⟩
end Go.Proofs.YtoelilejohfglaaGreat
namespace Go.Proofs.YtoelilejohfglaaGreat
open Go.RowKit
set_option linter.unusedVariables false
set_option linter.unusedSimpArgs false
open Go.ChangeShapes Go.WideShapes Go.ChangeAt Go.RowKit
section
variable {H : Type} {enc : TypeId × Value → H} {P : Program} {W : World} {base : Nat} {spare : Nat → Bool} {held : Bool}
theorem list_of {α β : Type} (f : α → β) (R : α → Prop) : ∀ (vs : List β), (∀ v ∈ vs, ∃ x, v = f x ∧ R x) → ∃ xs : List α, vs = xs.map f ∧ ∀ x ∈ xs, R x
 | [], _ => ⟨[], rfl, by simp⟩
 | v :: vs, h => by
  obtain ⟨x, rfl, hx⟩ := h v (by simp)
  obtain ⟨xs, rfl, hxs⟩ := list_of f R vs (fun u hu => h u (by simp [hu]))
  exact ⟨x :: xs, rfl, by simpa [hx] using hxs⟩
theorem u64_bounds {x : Int} (h : (Lit.int .u64 x).wf = true) : 0 ≤ x ∧ x < 18446744073709551616 := by
 have h1 : IntKind.u64.min ≤ x ∧ x ≤ IntKind.u64.max := by simpa [Lit.wf] using h
 have h2 : IntKind.u64.min = 0 := rfl
 have h3 : IntKind.u64.max = 18446744073709551615 := rfl
 omega
end
theorem cls_of (n0 n1 n2 n3 : Int) (h0 : 0 ≤ n0 ∧ n0 < 18446744073709551616) (h1 : 0 ≤ n1 ∧ n1 < 18446744073709551616) (h2 : 0 ≤ n2 ∧ n2 < 18446744073709551616) (h3 : 0 ≤ n3 ∧ n3 < 18446744073709551616) :
  ∃ x : Cls, wd x 0 = n0 ∧ wd x 1 = n1 ∧ wd x 2 = n2 ∧ wd x 3 = n3 := by
 obtain ⟨a0, rfl⟩ := Int.eq_ofNat_of_zero_le h0.1
 obtain ⟨a1, rfl⟩ := Int.eq_ofNat_of_zero_le h1.1
 obtain ⟨a2, rfl⟩ := Int.eq_ofNat_of_zero_le h2.1
 obtain ⟨a3, rfl⟩ := Int.eq_ofNat_of_zero_le h3.1
 have hN : a0 + 18446744073709551616 * (a1 + 18446744073709551616 * (a2 + 18446744073709551616 * a3)) < 2 ^ 256 := by omega
 have hw : ∀ k, wd (BitVec.ofNat 256 (a0 + 18446744073709551616 * (a1 + 18446744073709551616 * (a2 + 18446744073709551616 * a3)))) k = (((a0 + 18446744073709551616 * (a1 + 18446744073709551616 * (a2 + 18446744073709551616 * a3))) / 2 ^ (64 * k) % 2 ^ 64 : Nat) : Int) := by
  intro k
  unfold wd
  rw [BitVec.extractLsb'_toNat, BitVec.toNat_ofNat, Nat.mod_eq_of_lt hN, Nat.shiftRight_eq_div_pow]
 refine ⟨_, (hw 0).trans ?_, (hw 1).trans ?_, (hw 2).trans ?_, (hw 3).trans ?_⟩
 ·congr 1; simp only [Nat.mul_zero, Nat.pow_zero, Nat.div_one]; omega
 ·congr 1; rw [show (2 : Nat) ^ (64 * 1) = 18446744073709551616 from rfl]; omega
 ·congr 1; rw [show (2 : Nat) ^ (64 * 2) = 18446744073709551616 * 18446744073709551616 from rfl, ← Nat.div_div_eq_div_mul]; omega
 ·congr 1; rw [show (2 : Nat) ^ (64 * 3) = 18446744073709551616 * 18446744073709551616 * 18446744073709551616 from rfl, ← Nat.div_div_eq_div_mul, ← Nat.div_div_eq_div_mul]; omega
section
variable {H : Type} {enc : TypeId × Value → H} {W : World} {base : Nat} {spare : Nat → Bool} {held : Bool}
theorem open_cls {fuel : Nat} {cs : List Value} {x : DataW H × List MemPlace} (h : DataW.trod enc Tryz.prog W base spare held fuel 84 cs = some x) : ∃ y : Cls, cs = clsL y := by
 obtain ⟨xs, m, _, _, hl, hx, hi⟩ := DataW.trod_array Tryz.underlying84 h
 rw [show Tryz.prog.cellsOf 84 = 4 from by kernel_rfl] at hl
 match cs, hl with
 | [c0, c1, c2, c3], _ =>
  have hw : Tryz.prog.cellsOf 82 = 1 := by kernel_rfl
  have key : ∀ i c, i < 4 → ([c0, c1, c2, c3].drop (i * 1)).take 1 = [c] → ∃ n : Int, c = .int .u64 n ∧ 0 ≤ n ∧ n < 18446744073709551616 := by
   intro i c hi4 e
   have h1 := hi i hi4
   rw [hw, e, List.getElem?_eq_getElem (by omega)] at h1
   obtain ⟨n, hn, _, hwf⟩ := DataW.trod_int Tryz.underlying82 h1
   injection hn with hn
   exact ⟨n, hn, u64_bounds hwf⟩
  obtain ⟨n0, rfl, b0⟩ := key 0 c0 (by decide) rfl
  obtain ⟨n1, rfl, b1⟩ := key 1 c1 (by decide) rfl
  obtain ⟨n2, rfl, b2⟩ := key 2 c2 (by decide) rfl
  obtain ⟨n3, rfl, b3⟩ := key 3 c3 (by decide) rfl
  obtain ⟨y, e0, e1, e2, e3⟩ := cls_of n0 n1 n2 n3 b0 b1 b2 b3
  exact ⟨y, by unfold clsL; rw [e0, e1, e2, e3]⟩
end
end Go.Proofs.YtoelilejohfglaaGreat
namespace Go.Proofs.YtoelilejohfglaaGreat
open Go.RowKit
set_option linter.unusedVariables false
set_option linter.unusedSimpArgs false
open Go.ChangeShapes Go.WideShapes Go.ChangeAt Go.RowKit
section
variable {H : Type} {enc : TypeId × Value → H} {P : Program} {W : World} {base : Nat} {spare : Nat → Bool} {held : Bool}
def Sized (P : Program) (t : TypeId) (d : DataW H) : Prop := ∀ k ∈ d.weights P t, k ≤ reachBytes
theorem sized_arg {ts : List TypeId} {ds : List (DataW H)} {j : Nat} {t : TypeId} {d : DataW H} (h : (DataW.weightsEach P ts ds).all (· ≤ reachBytes) = true) (ht : ts[j]? = some t) (hd : ds[j]? = some d) : Sized P t d := fun k hk => by
 have := List.all_eq_true.1 h k (DataW.weights_mem_each ht hd k hk)
 simpa using this
theorem weights_mem_all {e : TypeId} : ∀ {ds : List (DataW H)} {d : DataW H}, d ∈ ds → ∀ k ∈ d.weights P e, k ∈ DataW.weightsAll P e ds
 | [], d, h, _, _ => by simp at h
 | d0 :: ds, d, h, k, hk => by
  simp only [DataW.weightsAll, List.mem_append]
  rw [List.mem_cons] at h
  rcases h with rfl | h
  ·exact .inl hk
  ·exact .inr (weights_mem_all h k hk)
theorem Sized.part {t : TypeId} {fs : Array Field} {ps : List (DataW H)} (ht : P.underlying t = some (.struct fs)) (h : Sized P t (.agg ps)) {j : Nat} {f : Field} {d : DataW H} (hf : fs[j]? = some f) (hd : ps[j]? = some d) : Sized P f.type d := fun k hk => by
 refine h k ?_
 simp only [DataW.weights, ht]
 exact DataW.weights_mem_each (j := j) (by rw [List.getElem?_map]; simp [hf]) hd k hk
theorem open_row_sized {t e : TypeId} {sz fuel : Nat} {cs : List Value} {x : DataW H × List MemPlace} (ht : P.underlying t = some (.slice e)) (hsz : P.cellsOf e = sz) (h0 : 0 < sz)
  (h : DataW.trod enc P W base spare held fuel t cs = some x) (hw : Sized P t x.1) (Q : List Value → Prop) (each : ∀ n cs y, DataW.trod enc P W base spare held n e cs = some y → Sized P e y.1 → cs.length = sz → Q cs) :
  ∃ (A : Option Addr) (n c : Nat) (vs : List (List Value)), cs = [.slice A n c] ∧ vs.length = n ∧ (∀ v ∈ vs, v.length = sz ∧ Q v) ∧ RowAt sz (fun k => k < W.heap.size) W A n c (vs.flatMap id) ∧ n * P.bytesOf e ≤ reachBytes := by
 rcases DataW.trod_slice ht h with ⟨rfl, _⟩ | ⟨a, len, cap, elems, rest, m, _, rfl, hx, hb, hl, hm, hlen, hel, _, _⟩
 ·exact ⟨none, 0, 0, [], rfl, rfl, by simp, RowAt.none _ _ _, by simp⟩
 have hbytes : len * P.bytesOf e ≤ reachBytes := by
  have := hw ((elems.length + rest.length) * P.bytesOf e) (by rw [hx]; simp [DataW.weights, ht])
  refine Nat.le_trans (Nat.mul_le_mul_right _ ?_) this
  omega
 have hsp : ∀ y ∈ elems, Sized P e y.1 := fun y hy k hk => hw k (by
  rw [hx]
  simp only [DataW.weights, ht, List.mem_cons, List.mem_append]
  exact .inr (.inl (weights_mem_all (List.mem_map_of_mem hy) k hk)))
 have hcell : ∀ i, i < len → ∃ v : List Value, v.length = sz ∧ Q v ∧ ∀ j, j < sz → W.cell? ((a.add (i * sz)).add j) = v[j]? := by
  intro i hi
  have h1 := hel i hi
  rw [hsz, List.getElem?_eq_getElem (by omega)] at h1
  obtain ⟨v, hv, hr⟩ := Option.bind_eq_some_iff.1 h1
  obtain ⟨_, hvl, hvc⟩ := World.cells?_some hv
  exact ⟨v, hvl, each _ _ _ hr (hsp _ (List.getElem_mem (by omega))) hvl, hvc⟩
 have hF : ∃ f : Nat → List Value, ∀ i, (f i).length = sz ∧ (i < len → Q (f i) ∧ ∀ j, j < sz → W.cell? ((a.add (i * sz)).add j) = (f i)[j]?) := by
  refine ⟨fun i => if h : i < len then Classical.choose (hcell i h) else List.replicate sz undef, fun i => ?_⟩
  by_cases hi : i < len
  ·simp only [dif_pos hi]
   have := Classical.choose_spec (hcell i hi)
   exact ⟨this.1, fun _ => this.2⟩
  ·simp only [dif_neg hi]
   exact ⟨by simp, fun h => absurd h hi⟩
 obtain ⟨f, hf⟩ := hF
 refine ⟨some a, len, cap, (List.range len).map f, rfl, by simp, fun v hv => ?_, ?_, hbytes⟩
 ·obtain ⟨i, hi, rfl⟩ := List.mem_map.1 hv
  exact ⟨(hf i).1, ((hf i).2 (by simpa using hi)).1⟩
 have hfl : ((List.range len).map f).flatMap id = (List.range len).flatMap f := by rw [List.flatMap_map]; rfl
 rw [hfl]
 unfold maxLen at hm
 refine ⟨(fun h => by cases h), hl, by omega, by rw [flat_len f sz (fun i => (hf i).1)]; simp, fun hn => ?_⟩
 obtain ⟨g, o, spot⟩ := a
 have hc0 := ((hf 0).2 hn).2 0 h0
 rw [List.getElem?_eq_getElem (by rw [(hf 0).1]; exact h0)] at hc0
 have hspot : spot = none := by simpa [Addr.add] using World.cell?_spot hc0
 subst hspot
 simp only [add_plain] at hf hc0
 have hlt : g < W.heap.size := World.block_lt_of_cell? W _ hc0
 refine ⟨g, o, rfl, hlt, hlt, fun j hj => ?_⟩
 have hk : j / sz < len := (Nat.div_lt_iff_lt_mul h0).2 hj
 have hm' : j % sz < sz := Nat.mod_lt _ h0
 have e : j = j / sz * sz + j % sz := by rw [Nat.mul_comm]; exact (Nat.div_add_mod j sz).symm
 have hc := ((hf (j / sz)).2 hk).2 (j % sz) hm'
 have hx := flat_getD f sz (fun i => (hf i).1) 0 (List.range len) (j / sz) (j % sz) (by simpa using hk) hm'
 rw [← e] at hx
 rw [hx, show o + j = o + j / sz * sz + j % sz from by omega, hc]
 have : (List.range len).getD (j / sz) 0 = j / sz := by simp [hk]
 rw [this, List.getD_eq_getElem?_getD, List.getElem?_eq_getElem (by rw [(hf _).1]; exact hm')]
 rfl
end
section
variable {H : Type} {enc : TypeId × Value → H} {W : World} {base : Nat} {spare : Nat → Bool} {held : Bool}
theorem open_classes_sized {fuel : Nat} {cs : List Value} {x : DataW H × List MemPlace} (h : DataW.trod enc Tryz.prog W base spare held fuel 32 cs = some x) (hw : Sized Tryz.prog 32 x.1) :
  ∃ (A : Option Addr) (n c : Nat) (xs : List Cls), cs = [.slice A n c] ∧ xs.length = n ∧ RowAt 4 (fun k => k < W.heap.size) W A n c (xs.flatMap clsL) ∧ n * 32 ≤ reachBytes := by
 obtain ⟨A, n, c, vs, rfl, hl, hv, hr, hb⟩ := open_row_sized Tryz.underlying32 (sz := 4) (by kernel_rfl) (by decide) h hw (fun cs => ∃ y : Cls, cs = clsL y) (fun n cs y hy _ _ => open_cls hy)
 obtain ⟨xs, rfl, _⟩ := list_of clsL (fun _ => True) vs (fun v hv' => by obtain ⟨y, hy⟩ := (hv v hv').2; exact ⟨y, hy, trivial⟩)
 have hB : Tryz.prog.bytesOf 84 = 32 := by kernel_rfl
 rw [hB] at hb
 refine ⟨A, n, c, xs, rfl, by simpa using hl, ?_, hb⟩
 rw [List.flatMap_map] at hr
 exact hr
structure LZ where
 p : List Cls
 K : Int
 A : Option Addr
 l : Nat
 c : Nat
def lzL (q : LZ) : List Value := [.slice q.A q.l q.c, .int .i64 q.K]
structure LZRead (F : Nat → Prop) (w : World) (q : LZ) : Prop where
 len : q.p.length = q.l
 row : RowAt 4 F w q.A q.l q.c (q.p.flatMap clsL)
 few : q.l * 32 ≤ reachBytes
 num : -9223372036854775808 ≤ q.K ∧ q.K ≤ 9223372036854775807
theorem open_leaf {fuel : Nat} {cs : List Value} {x : DataW H × List MemPlace} (h : DataW.trod enc Tryz.prog W base spare held fuel 34 cs = some x) (hw : Sized Tryz.prog 34 x.1) :
  ∃ q : LZ, cs = lzL q ∧ LZRead (fun k => k < W.heap.size) W q := by
 obtain ⟨xs, m, _, hxx, hl, hx, hi⟩ := DataW.trod_struct Tryz.underlying34 h
 rw [show Tryz.prog.cellsOf 34 = 2 from by kernel_rfl] at hl
 have hx4 : xs.length = 2 := hx
 subst hxx
 match cs, hl with
 | [c0, c1], _ =>
  have h0 := hi 0 _ rfl
  have h1 := hi 1 _ rfl
  rw [List.getElem?_eq_getElem (by omega)] at h0 h1
  have w1 : Tryz.prog.cellsOf 3 = 1 := by kernel_rfl
  have w2 : Tryz.prog.cellsOf 32 = 1 := by kernel_rfl
  have h0 : DataW.trod enc Tryz.prog W base spare held m 32 [c0] = some xs[0] := by simpa [w2] using h0
  have h1 : DataW.trod enc Tryz.prog W base spare held m 3 [c1] = some xs[1] := by simpa [w1] using h1
  have hs0 : Sized Tryz.prog 32 xs[0].1 := Sized.part Tryz.underlying34 hw (j := 0) rfl (by rw [List.getElem?_map, List.getElem?_eq_getElem (by omega)]; rfl)
  obtain ⟨A, l, c, ys, hs, hyl, hr, hb⟩ := open_classes_sized h0 hs0
  obtain ⟨n1, hn1, _, hw1⟩ := DataW.trod_int Tryz.underlying3 h1
  injection hn1 with hn1
  injection hs with hs
  subst hn1 hs
  exact ⟨⟨ys, n1, A, l, c⟩, rfl, hyl, hr, hb, int_bounds hw1⟩
theorem openLeaf {v : Value} {d : DataW H} {p : List MemPlace} {r : Reach} {b0 : Nat} (hv : Value.okWide Tryz.prog W r b0 34 v) (h : DataW.Trod enc Tryz.prog W base spare held 34 v d p) (hw : Sized Tryz.prog 34 d) :
  ∃ q : LZ, v = .agg #[.slice q.A q.l q.c, .int .i64 q.K] ∧ LZRead (fun k => k < W.heap.size) W q := by
 obtain ⟨cs, rfl, hs⟩ := okWide_struct Tryz.underlying34 hv
 obtain ⟨fuel, hf⟩ := h
 obtain ⟨q, hq, hr⟩ := open_leaf hf hw
 refine ⟨q, ?_, hr⟩
 have : cs = (lzL q).toArray := by
  simp only [Value.cells] at hq
  rw [← hq]
 rw [this]; rfl
end
end Go.Proofs.YtoelilejohfglaaGreat
