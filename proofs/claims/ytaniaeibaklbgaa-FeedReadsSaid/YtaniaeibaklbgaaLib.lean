/- Words on worlds that all later texts use: what a block holds, which blocks a call may have changed, slices that read as lists. They speak of no program. -/
import Derived.WalkKit
import Derived.WalkSpells
import Derived.WalkLawsBesides
import Derived.Deep.Draws
namespace Go.Proofs.Ytaniaeibaklbgaa
open Go.RowKit
theorem hid {p : Prop} (h : p) : Hid p := h

/-- The blocks of w that are not in S are as they were; the world's other parts too. -/
structure Chg (S : Nat → Prop) (w w' : World) : Prop where
  os : w'.os = w.os
  tape : w'.tape = w.tape
  output : w'.output = w.output
  size : w.heap.size ≤ w'.heap.size
  block : ∀ k, k < w.heap.size → ¬ S k → w'.heap[k]? = w.heap[k]?

def Nothing : Nat → Prop := fun _ => False
def One (b : Nat) : Nat → Prop := fun k => k = b

theorem Chg.refl (S : Nat → Prop) (w : World) : Chg S w w := ⟨rfl, rfl, rfl, Nat.le_refl _, fun _ _ _ => rfl⟩
theorem Chg.trans {S : Nat → Prop} {a b c : World} (h : Chg S a b) (k : Chg S b c) : Chg S a c :=
  ⟨k.os.trans h.os, k.tape.trans h.tape, k.output.trans h.output, Nat.le_trans h.size k.size,
    fun i hi hn => (k.block i (Nat.lt_of_lt_of_le hi h.size) hn).trans (h.block i hi hn)⟩
theorem Chg.mono {S T : Nat → Prop} {a b : World} (h : Chg S a b) (hs : ∀ k, k < a.heap.size → S k → T k) : Chg T a b :=
  ⟨h.os, h.tape, h.output, h.size, fun i hi hn => h.block i hi (fun hk => hn (hs i hi hk))⟩
/-- Two steps: what the second one writes is named, or came behind the first world. -/
theorem Chg.then {S T : Nat → Prop} {a b c : World} (h : Chg S a b) (k : Chg T b c) (ht : ∀ i, i < a.heap.size → T i → S i) : Chg S a c :=
  ⟨k.os.trans h.os, k.tape.trans h.tape, k.output.trans h.output, Nat.le_trans h.size k.size,
    fun i hi hn => (k.block i (Nat.lt_of_lt_of_le hi h.size) (fun hk => hn (ht i hi hk))).trans (h.block i hi hn)⟩
theorem Chg.alloc {S : Nat → Prop} {a b : World} (h : Chg S a b) (o : Obj) : Chg S a (b.alloc o) :=
  h.trans ⟨rfl, rfl, rfl, by simp, fun k hk _ => Below.heap_alloc _ _ _ (by omega)⟩
theorem Chg.drew {S : Nat → Prop} {a b : World} (h : Chg S a b) : Chg S a b.drew := ⟨h.os, h.tape, h.output, h.size, h.block⟩
theorem Chg.drewN {S : Nat → Prop} {a b : World} (h : Chg S a b) (n : Nat) : Chg S a (b.drewN n) := ⟨h.os, h.tape, h.output, h.size, h.block⟩
theorem Chg.setCell {S : Nat → Prop} {a b : World} (h : Chg S a b) (p : Addr) (hp : p.block < a.heap.size → S p.block) (u : Value) : Chg S a (b.setCell p u) :=
  ⟨h.os, h.tape, h.output, by have := h.size; simpa [World.setCell] using this, fun k hk hn => by
    rw [Below.heap_setCell _ _ _ _ (fun e => hn (by subst e; exact hp hk))]; exact h.block k hk hn⟩
theorem Chg.setOne {a b : World} {g : Nat} (h : Chg (One g) a b) (i : Nat) (u : Value) : Chg (One g) a (b.setCell ⟨g, i, none⟩ u) := h.setCell ⟨g, i, none⟩ (fun _ => rfl) u
theorem Chg.below {a b : World} (h : Chg Nothing a b) : Below a.heap.size a b := ⟨h.os, h.tape, h.output, h.size, fun k hk => h.block k hk id⟩
theorem Chg.of_below {S : Nat → Prop} {a b : World} (h : Below a.heap.size a b) : Chg S a b := ⟨h.os, h.tape, h.output, h.size, fun k hk _ => h.block k hk⟩
theorem Chg.of_grownBy {S : Nat → Prop} {a b : World} {r : Option Nat} (h : a.grownBy b r) (hr : ∀ k, r = some k → k < a.heap.size → S k) : Chg S a b :=
  ⟨h.os, h.tape, h.output, h.size, fun k hk hn => h.block k hk (fun e => hn (hr k e.symm hk))⟩
theorem Chg.one {b : Nat} {w w' : World} (h : Chg (One b) w w') : w.grownBy w' (some b) :=
  ⟨h.os, h.tape, h.output, h.size, fun k hk hn => h.block k hk (fun e => hn (by rw [e]))⟩

/-! ### A block known whole -/
def Blk (w : World) (b : Nat) (cs : Array Value) (T : TypeId) : Prop := w.heap[b]? = some (.cells cs T (0, 0))

theorem Blk.lt {w : World} {b : Nat} {cs : Array Value} {T : TypeId} (h : Blk w b cs T) : b < w.heap.size := lt_of_block h
theorem Blk.cell {w : World} {b : Nat} {cs : Array Value} {T : TypeId} (h : Blk w b cs T) (i : Nat) {v : Value} (hv : cs[i]? = some v) : w.cell? ⟨b, i, none⟩ = some v := by
  unfold Blk at h; simp [World.cell?, h, hv]
theorem Blk.free {w : World} {b : Nat} {cs : Array Value} {T : TypeId} (h : Blk w b cs T) (i : Nat) : w.frozen? ⟨b, i, none⟩ = false := by
  unfold Blk at h; simp [World.frozen?, h]
theorem Blk.chg {S : Nat → Prop} {w w' : World} {b : Nat} {cs : Array Value} {T : TypeId} (h : Blk w b cs T) (hc : Chg S w w') (hn : ¬ S b) : Blk w' b cs T :=
  (hc.block b h.lt hn).trans h
theorem Blk.alloc {w : World} {b : Nat} {cs : Array Value} {T : TypeId} (h : Blk w b cs T) (o : Obj) : Blk (w.alloc o) b cs T :=
  (Below.heap_alloc _ _ _ h.lt).trans h
theorem Blk.drew {w : World} {b : Nat} {cs : Array Value} {T : TypeId} (h : Blk w b cs T) : Blk w.drew b cs T := h
theorem Blk.drewN {w : World} {b : Nat} {cs : Array Value} {T : TypeId} (h : Blk w b cs T) (n : Nat) : Blk (w.drewN n) b cs T := h
theorem Blk.new (w : World) (cs : Array Value) (T : TypeId) : Blk (w.alloc (.cells cs T)) w.heap.size cs T := heap_alloc_new w _
theorem Blk.set {w : World} {b : Nat} {cs : Array Value} {T : TypeId} (h : Blk w b cs T) (i : Nat) (v : Value) : Blk (w.setCell ⟨b, i, none⟩ v) b (cs.setIfInBounds i v) T := by
  have hlt := h.lt
  have h' : w.heap[b] = .cells cs T (0, 0) := by simpa [Blk, Array.getElem?_eq_getElem hlt] using h
  show (w.heap.modify b _)[b]? = _
  rw [Array.getElem?_eq_getElem (by simpa using hlt), Array.getElem_modify_self, h']
  rfl
theorem Blk.other {w : World} {b : Nat} {cs : Array Value} {T : TypeId} (h : Blk w b cs T) {p : Addr} (hp : p.block ≠ b) (v : Value) : Blk (w.setCell p v) b cs T :=
  (Below.heap_setCell _ _ _ _ (fun e => hp e.symm)).trans h

/-! ### Slices whose elements are one cell each, that are read -/
/-- The slice value reads as xs; if it has elements, they lie in a block of F. -/
def Row (F : Nat → Prop) (w : World) (A : Option Addr) (n : Nat) (xs : List Value) : Prop :=
  xs.length = n ∧ n ≤ 9223372036854775807 ∧ (0 < n → ∃ ad, A = some ad ∧ F ad.block ∧ ad.block < w.heap.size ∧ ∀ j, j < n → w.cell? (ad.add j) = some (xs.getD j undef))

theorem add_block (a : Addr) (j : Nat) : (a.add j).block = a.block := by unfold Addr.add; split <;> rfl
theorem add_plain (g o j : Nat) : (⟨g, o, none⟩ : Addr).add j = ⟨g, o + j, none⟩ := by unfold Addr.add; split <;> simp_all

theorem Row.chg {F S : Nat → Prop} {w w' : World} {A : Option Addr} {n : Nat} {xs : List Value} (h : Row F w A n xs) (hc : Chg S w w') (hd : ∀ k, k < w.heap.size → F k → ¬ S k) : Row F w' A n xs :=
  ⟨h.1, h.2.1, fun hn => by
    obtain ⟨ad, e, hF, hlt, hcell⟩ := h.2.2 hn
    exact ⟨ad, e, hF, Nat.lt_of_lt_of_le hlt hc.size, fun j hj => (World.cell?_of_block (w := w) (by rw [add_block]; exact hc.block _ hlt (hd _ hlt hF))).trans (hcell j hj)⟩⟩
theorem Row.mono {F G : Nat → Prop} {w : World} {A : Option Addr} {n : Nat} {xs : List Value} (h : Row F w A n xs) (hF : ∀ k, k < w.heap.size → F k → G k) : Row G w A n xs :=
  ⟨h.1, h.2.1, fun hn => by obtain ⟨ad, e, hF', hlt, hcell⟩ := h.2.2 hn; exact ⟨ad, e, hF _ hlt hF', hlt, hcell⟩⟩
theorem Row.nil (F : Nat → Prop) (w : World) (A : Option Addr) : Row F w A 0 [] := ⟨rfl, by omega, fun h => absurd h (by omega)⟩


/-! ### Slices of whole numbers that are read -/
def IntsAt (F : Nat → Prop) (w : World) (A : Option Addr) (n c : Nat) (xs : List Int) : Prop :=
  (A = none → c = 0) ∧ n ≤ c ∧ c ≤ 9223372036854775807 ∧ xs.length = n ∧ (0 < n → ∃ g o, A = some ⟨g, o, none⟩ ∧ F g ∧ g < w.heap.size ∧ ∀ j, j < n → w.cell? ⟨g, o + j, none⟩ = some (.int .i64 (xs.getD j 0)))
theorem IntsAt.chg {F S : Nat → Prop} {w w' : World} {A : Option Addr} {n c : Nat} {xs : List Int} (h : IntsAt F w A n c xs) (hc : Chg S w w') (hd : ∀ k, k < w.heap.size → F k → ¬ S k) : IntsAt F w' A n c xs := by
  obtain ⟨h0, h1, h2, h3, h4⟩ := h
  refine ⟨h0, h1, h2, h3, fun hn => ?_⟩
  obtain ⟨g, o, e, hg, hlt, hcell⟩ := h4 hn
  exact ⟨g, o, e, hg, Nat.lt_of_lt_of_le hlt hc.size, fun j hj => (World.cell?_of_block (w := w) (hc.block g hlt (hd g hlt hg))).trans (hcell j hj)⟩
theorem IntsAt.mono {F G : Nat → Prop} {w : World} {A : Option Addr} {n c : Nat} {xs : List Int} (h : IntsAt F w A n c xs) (hF : ∀ k, k < w.heap.size → F k → G k) : IntsAt G w A n c xs := by
  obtain ⟨h0, h1, h2, h3, h4⟩ := h
  refine ⟨h0, h1, h2, h3, fun hn => ?_⟩
  obtain ⟨g, o, e, hg, hlt, hcell⟩ := h4 hn
  exact ⟨g, o, e, hF g hlt hg, hlt, hcell⟩
theorem IntsAt.nil (F : Nat → Prop) (w : World) : IntsAt F w none 0 0 [] := ⟨fun _ => rfl, by omega, by omega, rfl, fun h => absurd h (by omega)⟩
/-- The first element goes. -/
theorem IntsAt.tail {F : Nat → Prop} {w : World} {A A' : Option Addr} {n c : Nat} {x : Int} {xs : List Int} (h : IntsAt F w A n c (x :: xs)) (hA : ∀ g o, A = some ⟨g, o, none⟩ → c ≠ 1 → A' = some ⟨g, o + 1, none⟩) : IntsAt F w A' (n - 1) (c - 1) xs := by
  obtain ⟨h0, h1, h2, h3, h4⟩ := h
  simp only [List.length_cons] at h3
  refine ⟨fun e => ?_, by omega, by omega, by omega, fun hn => ?_⟩
  · have h5 := h4 (by omega)
    clear h4
    obtain ⟨g, o, e', hg, hlt, hcell⟩ := h5
    by_cases hc : c = 1
    · omega
    · rw [hA g o e' hc] at e; simp at e
  have h5 := h4 (by omega)
  clear h4
  obtain ⟨g, o, e, hg, hlt, hcell⟩ := h5
  refine ⟨g, o + 1, hA g o e (by omega), hg, hlt, fun j hj => ?_⟩
  have := hcell (j + 1) (by omega)
  rw [show o + 1 + j = o + (j + 1) from by omega, this]
  rfl
/-- What a call owns is read. -/
theorem IntsAt.of_own {w : World} {base : Nat} {e : TypeId} {v : Value} {xs : List Int} (h : w.ownsRow base e 1 v xs.length (xs.map (Value.int .i64))) : ∃ A c, v = .slice A xs.length c ∧ IntsAt (fun k => v.ownBlock = some k ∧ base ≤ k) w A xs.length c xs := by
  rcases h.2 with ⟨rfl, h0⟩ | ⟨g, cap, cur, rfl, hb, hg, hnc, hcm, hsz, hcur⟩
  · have : xs = [] := List.eq_nil_of_length_eq_zero h0
    subst this
    exact ⟨none, 0, rfl, IntsAt.nil _ _⟩
  · refine ⟨_, cap, rfl, (fun h => by cases h), hnc, by unfold maxLen at hcm; omega, rfl, fun hn => ⟨g, 0, rfl, ⟨rfl, hb⟩, lt_of_block hg, fun j hj => ?_⟩⟩
    have h1 : cur[j]? = some (.int .i64 (xs.getD j 0)) := by
      have h2 : (cur.toList.take (xs.length * 1))[j]? = (xs.map (Value.int .i64))[j]? := by rw [hcur]
      rw [List.getElem?_take, if_pos (by omega)] at h2
      rw [← Array.getElem?_toList, h2]
      simp [hj]
    simp [World.cell?, hg, h1]
theorem nums_cells {F : Nat → Prop} {w : World} {ad : Addr} {n c : Nat} {xs : List Int} (h : IntsAt F w (some ad) n c xs) : ∀ j u, (xs.map (Value.int .i64))[j]? = some u → w.cell? (ad.add j) = some u := by
  obtain ⟨h0, h1, h2, h3, h4⟩ := h
  intro j u hj
  rw [List.getElem?_map] at hj
  have hjl : j < xs.length := by
    rcases Nat.lt_or_ge j xs.length with h | h
    · exact h
    · simp [List.getElem?_eq_none h] at hj
  simp [hjl] at hj
  subst hj
  obtain ⟨g, o, e, hg, hlt, hcell⟩ := h4 (by omega)
  injection e with e
  subst e
  rw [show (⟨g, o, none⟩ : Addr).add j = ⟨g, o + j, none⟩ from add_plain g o j, hcell j (by omega)]
  simp [hjl]
theorem nums_one (xs : List Int) (k : IntKind) : ∀ u ∈ xs.map (Value.int k), u.oneCell' = true := by
  intro u hu; simp at hu; obtain ⟨x, _, rfl⟩ := hu; rfl

/-- A slice that was just laid, as a literal. -/
theorem IntsAt.new {F : Nat → Prop} (w : World) (cs : Array Value) (T : TypeId) (xs : List Int) (n : Nat) (hcs : cs = (xs.map (Value.int .i64)).toArray) (hn : xs.length = n) (hm : n ≤ 9223372036854775807) (hF : F w.heap.size) : IntsAt F (w.alloc (.cells cs T)) (some ⟨w.heap.size, 0, none⟩) n n xs := by
  subst hcs hn
  refine ⟨(fun h => by cases h), Nat.le_refl _, hm, rfl, fun hn => ⟨w.heap.size, 0, rfl, hF, by rw [World.size_alloc]; omega, fun j hj => ?_⟩⟩
  exact (Blk.new w _ T).cell _ (by simp [hj])

/-- The walk goes on in a world of which I alone is known. -/
theorem wp_forget (I : World → Prop) {P : Program} {c : Code} {Q : Exit → Act → World → Prop} {a : Act} {w : World} (h : I w) (k : ∀ W, I W → c.wp P Q a W) : c.wp P Q a w := k w h

end Go.Proofs.Ytaniaeibaklbgaa
