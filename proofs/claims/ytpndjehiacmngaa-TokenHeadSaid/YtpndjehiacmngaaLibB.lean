/- Stores and loads of whole rows of cells in a block that is known whole. No program. -/
import Derived.Test.YtpndjehiacmngaaLib
import Derived.Deep.MidRow
namespace Go.Proofs.Ytpndjehiacmngaa
open Go.RowKit
set_option linter.unusedVariables false
def splice : Array Value → Nat → List Value → Array Value
  | A, _, [] => A
  | A, o, v :: r => splice (A.setIfInBounds o v) (o + 1) r
theorem splice_size : ∀ (vs : List Value) (A : Array Value) (o : Nat), (splice A o vs).size = A.size
  | [], _, _ => rfl
  | v :: r, A, o => by rw [splice, splice_size r]; simp
theorem Blk.setCells {b : Nat} {T : TypeId} : ∀ (vs : List Value) (o : Nat) (w : World) (cs : Array Value), Blk w b cs T → Blk (w.setCells b o vs) b (splice cs o vs) T
  | [], _, _, _, h => h
  | v :: r, o, w, cs, h => by rw [World.setCells, splice]; exact Blk.setCells r (o + 1) _ _ (h.set o v)
theorem Chg.setCells {S : Nat → Prop} {b : Nat} : ∀ (vs : List Value) (o : Nat) (a w : World), Chg S a w → (b < a.heap.size → S b) → Chg S a (w.setCells b o vs)
  | [], _, _, _, h, _ => h
  | v :: r, o, a, w, h, hb => by rw [World.setCells]; exact Chg.setCells r (o + 1) a _ (h.setCell ⟨b, o, none⟩ hb v) hb
theorem Blk.there {w : World} {b : Nat} {cs : Array Value} {T : TypeId} (h : Blk w b cs T) (o n : Nat) (hn : o + n ≤ cs.size) : w.there b o n := fun j hj => by
  have hlt : o + j < cs.size := by omega
  exact ⟨by rw [h.cell (o + j) (Array.getElem?_eq_getElem hlt)]; rfl, h.free (o + j)⟩
/-- A row of cells is stored into a block known whole. -/
theorem store_in {P : Program} {w : World} {ops : Array Oper} {rest : List Oper} {o : Oper} {a : Act} {Q : Exit → Act → World → Prop} (hgd : o.guard = none) (ty : TypeId) (x y : Operand) (ho : o.op = .store ty x y)
    (b k : Nat) (hx : a.eval x = .pointer (some ⟨b, k, none⟩)) (cs : Array Value) (hy : a.eval y = .agg cs) {cs0 : Array Value} {T : TypeId} (hB : Blk w b cs0 T)
    (hsz : k + cs.size ≤ cs0.size) (hi : (P.info? ty).map (·.size) = some cs.size) (h1 : cs.toList.all (·.oneCell') = true)
    (h : ∀ w', Blk w' b (splice cs0 k cs.toList) T → Chg (One b) w w' → wpList P ops Q rest (a.put o.dst undef) w') : wpList P ops Q (o :: rest) a w :=
  wpList_store_mid hgd ty x y ho b k cs hx hy (hB.there k cs.size hsz) hi (by rw [← Array.all_toList]; exact h1) (h _ (Blk.setCells _ _ _ _ hB) (Chg.setCells _ _ _ _ (Chg.refl _ _) (fun _ => rfl)))
theorem splice_get : ∀ (vs : List Value) (A : Array Value) (o i : Nat), o + vs.length ≤ A.size → (splice A o vs)[i]? = if o ≤ i ∧ i < o + vs.length then vs[i - o]? else A[i]?
  | [], A, o, i, h => by rw [splice, if_neg (by intro h; simp only [List.length_nil] at h; omega)]
  | v :: r, A, o, i, h => by
    simp only [List.length_cons] at h ⊢
    rw [splice, splice_get r _ (o + 1) i (by simp; omega)]
    by_cases e : i = o
    · subst e
      rw [if_neg (by omega), if_pos (by omega)]
      simp [Array.getElem?_setIfInBounds]
      try omega
    · by_cases h2 : o + 1 ≤ i ∧ i < o + 1 + r.length
      · rw [if_pos h2, if_pos (by omega)]
        rw [show i - o = (i - (o + 1)) + 1 from by omega]; rfl
      · rw [if_neg h2, if_neg (by omega), Array.getElem?_setIfInBounds, if_neg (by omega)]
theorem splice_whole (cs0 cs : Array Value) (h : cs.size = cs0.size) : splice cs0 0 cs.toList = cs := by
  apply Array.ext_getElem?
  intro i
  rw [splice_get _ _ _ _ (by simp; omega)]
  split
  · simp
  · rename_i hn
    rw [Array.getElem?_eq_none (by simp at hn; omega), Array.getElem?_eq_none (by simp at hn; omega)]
/-- A block's cells are all stored anew. -/
theorem store_blk {P : Program} {w : World} {ops : Array Oper} {rest : List Oper} {o : Oper} {a : Act} {Q : Exit → Act → World → Prop} (hgd : o.guard = none) (ty : TypeId) (x y : Operand) (ho : o.op = .store ty x y)
    (b : Nat) (hx : a.eval x = .pointer (some ⟨b, 0, none⟩)) (cs : Array Value) (hy : a.eval y = .agg cs) {cs0 : Array Value} {T : TypeId} (hB : Blk w b cs0 T)
    (hsz : cs.size = cs0.size) (hi : (P.info? ty).map (·.size) = some cs.size) (h1 : cs.toList.all (·.oneCell') = true)
    (h : ∀ w', Blk w' b cs T → Chg (One b) w w' → wpList P ops Q rest (a.put o.dst undef) w') : wpList P ops Q (o :: rest) a w :=
  store_in hgd ty x y ho b 0 hx cs hy hB (by omega) hi h1 fun w' hb hc => h w' (by rw [splice_whole cs0 cs hsz] at hb; exact hb) hc
/-- A row of cells is loaded out of a block known whole. -/
theorem load_in {P : Program} {w : World} {ops : Array Oper} {rest : List Oper} {o : Oper} {a : Act} {Q : Exit → Act → World → Prop} (hgd : o.guard = none) (ty : TypeId) (x : Operand) (ho : o.op = .load ty x)
    (b k : Nat) (hx : a.eval x = .pointer (some ⟨b, k, none⟩)) {cs0 : Array Value} {T : TypeId} (hB : Blk w b cs0 T) (vs : List Value) (hv : (cs0.extract k (k + vs.length)).toList = vs) (d : TypeDesc)
    (hu : P.underlying ty = some d) (hd : d.isRow = true) (hi : (P.info? ty).map (·.size) = some vs.length)
    (h : wpList P ops Q rest (a.put o.dst (.agg vs.toArray)) w) : wpList P ops Q (o :: rest) a w := by
  refine wpList_load_mid hgd ty x ho b k hx vs d ?_ hu hd hi h
  have := World.rangeAt_of_block hB k vs.length
  rwa [hv] at this
/-- A place at which the walk stops, so that a law may be laid by hand. -/
def Halted (p : Prop) : Prop := p
theorem halt_op {P : Program} {w : World} {ops : Array Oper} {rest : List Oper} {d : Option Tmp} {ty : TypeId} {pos : String} {af : Array Edge} {g : Option (Nat × Bool)} {a : Act} {Q : Exit → Act → World → Prop} (p : Op) (h : Halted (wpList P ops Q (⟨d, p, ty, pos, af, g⟩ :: rest) a w)) : wpList P ops Q (⟨d, p, ty, pos, af, g⟩ :: rest) a w := h
end Go.Proofs.Ytpndjehiacmngaa
