/- Rows whose elements are several cells each, that are read. No program. -/
import Derived.Test.YtpndjehiacmngaaLibB
namespace Go.Proofs.Ytpndjehiacmngaa
open Go.RowKit
set_option linter.unusedVariables false
/-- A slice of n elements of sz cells each reads as the cells vs. -/
structure RowAt (sz : Nat) (F : Nat → Prop) (w : World) (A : Option Addr) (n c : Nat) (vs : List Value) : Prop where
  nil : A = none → c = 0
  le : n ≤ c
  max : c ≤ 9223372036854775807
  len : vs.length = n * sz
  cells : 0 < n → ∃ g o, A = some ⟨g, o, none⟩ ∧ F g ∧ g < w.heap.size ∧ ∀ j, j < n * sz → w.cell? ⟨g, o + j, none⟩ = some (vs.getD j undef)
theorem RowAt.chg {sz : Nat} {F S : Nat → Prop} {w w' : World} {A : Option Addr} {n c : Nat} {vs : List Value} (h : RowAt sz F w A n c vs) (hc : Chg S w w') (hd : ∀ k, k < w.heap.size → F k → ¬ S k) : RowAt sz F w' A n c vs := by
  refine ⟨h.nil, h.le, h.max, h.len, fun hn => ?_⟩
  obtain ⟨g, o, e, hg, hlt, hcell⟩ := h.cells hn
  exact ⟨g, o, e, hg, Nat.lt_of_lt_of_le hlt hc.size, fun j hj => (World.cell?_of_block (w := w) (hc.block g hlt (hd g hlt hg))).trans (hcell j hj)⟩
theorem RowAt.mono {sz : Nat} {F G : Nat → Prop} {w : World} {A : Option Addr} {n c : Nat} {vs : List Value} (h : RowAt sz F w A n c vs) (hF : ∀ k, k < w.heap.size → F k → G k) : RowAt sz G w A n c vs := by
  refine ⟨h.nil, h.le, h.max, h.len, fun hn => ?_⟩
  obtain ⟨g, o, e, hg, hlt, hcell⟩ := h.cells hn
  exact ⟨g, o, e, hF g hlt hg, hlt, hcell⟩
theorem RowAt.none (sz : Nat) (F : Nat → Prop) (w : World) : RowAt sz F w none 0 0 [] := ⟨fun _ => rfl, by omega, by omega, by simp, fun h => absurd h (by omega)⟩
theorem RowAt.of_own {w : World} {base : Nat} {e : TypeId} {sz : Nat} {A : Option Addr} {n c : Nat} {vs : List Value} (h : w.ownsRow base e sz (.slice A n c) n vs) : RowAt sz (fun k => Of A k ∧ base ≤ k) w A n c vs := by
  have hl := h.1
  rcases h.2 with ⟨e1, h0⟩ | ⟨g, cap, cur, e1, hb, hg, hnc, hcm, hsz, hcur⟩
  · injection e1 with e1 e2 e3
    subst e1 e3 h0
    have : vs = [] := List.eq_nil_of_length_eq_zero (by omega)
    subst this
    exact RowAt.none _ _ _
  · injection e1 with e1 e2 e3
    subst e1 e3
    refine ⟨(fun h => by cases h), hnc, by unfold maxLen at hcm; omega, by simpa using hl, fun hn => ⟨g, 0, rfl, ⟨⟨_, rfl, rfl⟩, hb⟩, lt_of_block hg, fun j hj => ?_⟩⟩
    have h1 : cur[j]? = some (vs.getD j undef) := by
      have h2 : (cur.toList.take (n * sz))[j]? = vs[j]? := by rw [hcur]
      rw [List.getElem?_take, if_pos hj] at h2
      rw [← Array.getElem?_toList, h2]
      have hj' : j < vs.length := by omega
      simp [hj']
    simp [World.cell?, hg, h1]
/-- The cells of an element, one by one. -/
theorem RowAt.cell {sz : Nat} {F : Nat → Prop} {w : World} {A : Option Addr} {n c : Nat} {vs : List Value} (h : RowAt sz F w A n c vs) {k : Nat} (hk : k < n) (hs : 0 < sz) :
    ∃ g o, A = some ⟨g, o, .none⟩ ∧ F g ∧ g < w.heap.size ∧ ∀ j, j < sz → w.cell? ⟨g, o + k * sz + j, .none⟩ = some (vs.getD (k * sz + j) undef) := by
  obtain ⟨g, o, e, hg, hlt, hcell⟩ := h.cells (by omega)
  refine ⟨g, o, e, hg, hlt, fun j hj => ?_⟩
  have : k * sz + j < n * sz := by
    have h1 : (k + 1) * sz ≤ n * sz := Nat.mul_le_mul_right sz hk
    rw [Nat.add_mul, Nat.one_mul] at h1; omega
  rw [Nat.add_assoc]
  exact hcell _ this
theorem flat_getD {α : Type} (f : α → List Value) (sz : Nat) (hf : ∀ x, (f x).length = sz) (d : α) : ∀ (xs : List α) (k j : Nat), k < xs.length → j < sz → (xs.flatMap f).getD (k * sz + j) undef = (f (xs.getD k d)).getD j undef
  | [], k, j, h, _ => by simp at h
  | x :: xs, 0, j, h, hj => by
    rw [List.flatMap_cons, Nat.zero_mul, Nat.zero_add]
    have hx : j < (f x).length := by rw [hf]; exact hj
    simp [List.getElem?_append_left hx]
  | x :: xs, k + 1, j, h, hj => by
    rw [List.flatMap_cons]
    have e : (k + 1) * sz + j = (f x).length + (k * sz + j) := by rw [hf, Nat.add_mul, Nat.one_mul]; omega
    rw [e]
    have := flat_getD f sz hf d xs k j (by simpa using h) hj
    simp only [List.getD_eq_getElem?_getD] at this ⊢
    rw [List.getElem?_append_right (by omega), Nat.add_sub_cancel_left, this]
    simp
theorem flat_len {α : Type} (f : α → List Value) (sz : Nat) (hf : ∀ x, (f x).length = sz) : ∀ (xs : List α), (xs.flatMap f).length = xs.length * sz
  | [] => by simp
  | x :: xs => by rw [List.flatMap_cons, List.length_append, flat_len f sz hf xs, hf, List.length_cons, Nat.add_mul, Nat.one_mul]; omega
theorem Blk.put4 {w : World} {b : Nat} {v0 v1 v2 v3 : Value} {T : TypeId} (h : Blk w b #[v0, v1, v2, v3] T) (a0 a1 a2 a3 : Value) :
    Blk ((((w.setCell ⟨b, 0, none⟩ a0).setCell ⟨b, 1, none⟩ a1).setCell ⟨b, 2, none⟩ a2).setCell ⟨b, 3, none⟩ a3) b #[a0, a1, a2, a3] T := by
  have := Blk.setCells [a0, a1, a2, a3] 0 w _ h
  rw [show [a0, a1, a2, a3] = (#[a0, a1, a2, a3] : Array Value).toList from rfl, splice_whole #[v0, v1, v2, v3] #[a0, a1, a2, a3] rfl] at this
  exact this
theorem Blk.put9 {w : World} {b : Nat} {v0 v1 v2 v3 v4 v5 v6 v7 v8 : Value} {T : TypeId} (h : Blk w b #[v0, v1, v2, v3, v4, v5, v6, v7, v8] T) (a0 a1 a2 a3 a4 a5 a6 a7 a8 : Value) :
    Blk (((((((((w.setCell ⟨b, 0, none⟩ a0).setCell ⟨b, 1, none⟩ a1).setCell ⟨b, 2, none⟩ a2).setCell ⟨b, 3, none⟩ a3).setCell ⟨b, 4, none⟩ a4).setCell ⟨b, 5, none⟩ a5).setCell ⟨b, 6, none⟩ a6).setCell ⟨b, 7, none⟩ a7).setCell ⟨b, 8, none⟩ a8) b #[a0, a1, a2, a3, a4, a5, a6, a7, a8] T := by
  have := Blk.setCells [a0, a1, a2, a3, a4, a5, a6, a7, a8] 0 w _ h
  rw [show [a0, a1, a2, a3, a4, a5, a6, a7, a8] = (#[a0, a1, a2, a3, a4, a5, a6, a7, a8] : Array Value).toList from rfl, splice_whole #[v0, v1, v2, v3, v4, v5, v6, v7, v8] #[a0, a1, a2, a3, a4, a5, a6, a7, a8] rfl] at this
  exact this
/-- Two results in boxes. -/
theorem results_cells2 {P : Program} {fn : Func} {p q : Tmp} {T U : TypeId} (h : fn.results = #[.cell p T, .cell q U]) (tmps : Array Value) (w : World) (g k : Nat) (cs ds : Array Value) (Tc Uc : TypeId) (d e : TypeDesc)
    (hp : tmps.getD p undef = .pointer (some ⟨g, 0, none⟩)) (hq : tmps.getD q undef = .pointer (some ⟨k, 0, none⟩)) (hg : Blk w g cs Tc) (hk : Blk w k ds Uc)
    (hu : P.underlying T = some d) (hd : (match d with | .struct _ | .array _ _ => true | _ => false) = true) (hi : (P.info? T).map (·.size) = some cs.size)
    (hv : P.underlying U = some e) (he : (match e with | .struct _ | .array _ _ => true | _ => false) = true) (hj : (P.info? U).map (·.size) = some ds.size) :
    (results fn tmps).run P w = .ok (.tuple #[.agg cs, .agg ds]) w := by
  have hp' : tmps[p]?.getD undef = .pointer (some ⟨g, 0, none⟩) := by simpa using hp
  have hq' : tmps[q]?.getD undef = .pointer (some ⟨k, 0, none⟩) := by simpa using hq
  have h1 := run_loadVar_row (P := P) w g Tc T cs (0, 0) d hg hu hd hi
  have h2 := run_loadVar_row (P := P) w k Uc U ds (0, 0) e hk hv he hj
  simp [results, h, hp', hq', asAddr, h1, h2]
end Go.Proofs.Ytpndjehiacmngaa
