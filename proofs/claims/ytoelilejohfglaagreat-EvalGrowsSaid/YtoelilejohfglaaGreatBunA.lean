/- Joined texts: Lib LibB LibC LibD LibE Calm Pie. -/
import Derived.WalkKit
import Derived.WalkSpells
import Derived.WalkLawsBesides
import Derived.Deep.Draws
import Derived.Maps.AppendAt
import Derived.Laws.AppendOwnNone
import Derived.Deep.MidRow
import Derived.Scope
import Derived.Deep.RegionHeld3
import Derived.Deep.QuietTactic
import Derived.BigQuiet
namespace Go.Proofs.YtoelilejohfglaaGreat
open Go.RowKit
set_option linter.unusedVariables false
set_option linter.unusedSimpArgs false
theorem hid {p : Prop} (h : p) : Hid p := h
structure Chg (S : Nat → Prop) (w w' : World) : Prop where
 os : w'.os = w.os
 tape : w'.tape = w.tape
 output : w'.output = w.output
 size : w.heap.size ≤ w'.heap.size
 block : ∀ k, k < w.heap.size → ¬ S k → w'.heap[k]? = w.heap[k]?
def Nothing : Nat → Prop := fun _ => False
def One (b : Nat) : Nat → Prop := fun k => k = b
theorem Chg.refl (S : Nat → Prop) (w : World) : Chg S w w := ⟨rfl, rfl, rfl, Nat.le_refl _, fun _ _ _ => rfl⟩
theorem Chg.trans {S : Nat → Prop} {a b c : World} (h : Chg S a b) (k : Chg S b c) : Chg S a c :=
 ⟨k.os.trans h.os, k.tape.trans h.tape, k.output.trans h.output, Nat.le_trans h.size k.size,
  fun i hi hn => (k.block i (Nat.lt_of_lt_of_le hi h.size) hn).trans (h.block i hi hn)⟩
theorem Chg.mono {S T : Nat → Prop} {a b : World} (h : Chg S a b) (hs : ∀ k, k < a.heap.size → S k → T k) : Chg T a b :=
 ⟨h.os, h.tape, h.output, h.size, fun i hi hn => h.block i hi (fun hk => hn (hs i hi hk))⟩
theorem Chg.then {S T : Nat → Prop} {a b c : World} (h : Chg S a b) (k : Chg T b c) (ht : ∀ i, i < a.heap.size → T i → S i) : Chg S a c :=
 ⟨k.os.trans h.os, k.tape.trans h.tape, k.output.trans h.output, Nat.le_trans h.size k.size,
  fun i hi hn => (k.block i (Nat.lt_of_lt_of_le hi h.size) (fun hk => hn (ht i hi hk))).trans (h.block i hi hn)⟩
theorem Chg.alloc {S : Nat → Prop} {a b : World} (h : Chg S a b) (o : Obj) : Chg S a (b.alloc o) :=
 h.trans ⟨rfl, rfl, rfl, by simp, fun k hk _ => Below.heap_alloc _ _ _ (by omega)⟩
theorem Chg.drew {S : Nat → Prop} {a b : World} (h : Chg S a b) : Chg S a b.drew := ⟨h.os, h.tape, h.output, h.size, h.block⟩
theorem Chg.drewN {S : Nat → Prop} {a b : World} (h : Chg S a b) (n : Nat) : Chg S a (b.drewN n) := ⟨h.os, h.tape, h.output, h.size, h.block⟩
theorem Chg.setCell {S : Nat → Prop} {a b : World} (h : Chg S a b) (p : Addr) (hp : p.block < a.heap.size → S p.block) (u : Value) : Chg S a (b.setCell p u) :=
 ⟨h.os, h.tape, h.output, by have := h.size; simpa [World.setCell] using this, fun k hk hn => by
  rw [Below.heap_setCell _ _ _ _ (fun e => hn (by subst e; exact hp hk))]; exact h.block k hk hn⟩
theorem Chg.setOne {a b : World} {g : Nat} (h : Chg (One g) a b) (i : Nat) (u : Value) : Chg (One g) a (b.setCell ⟨g, i, none⟩ u) := h.setCell ⟨g, i, none⟩ (fun _ => rfl) u
theorem Chg.setNew {S : Nat → Prop} {a b : World} {g : Nat} (h : Chg S a b) (hg : a.heap.size ≤ g) (i : Nat) (u : Value) : Chg S a (b.setCell ⟨g, i, none⟩ u) := h.setCell ⟨g, i, none⟩ (fun hh => absurd hh (Nat.not_lt.2 hg)) u
theorem Chg.below {a b : World} (h : Chg Nothing a b) : Below a.heap.size a b := ⟨h.os, h.tape, h.output, h.size, fun k hk => h.block k hk id⟩
theorem Chg.of_grownBy {S : Nat → Prop} {a b : World} {r : Option Nat} (h : a.grownBy b r) (hr : ∀ k, r = some k → k < a.heap.size → S k) : Chg S a b :=
 ⟨h.os, h.tape, h.output, h.size, fun k hk hn => h.block k hk (fun e => hn (hr k e.symm hk))⟩
theorem Chg.one {b : Nat} {w w' : World} (h : Chg (One b) w w') : w.grownBy w' (some b) :=
 ⟨h.os, h.tape, h.output, h.size, fun k hk hn => h.block k hk (fun e => hn (by rw [e]))⟩
def Blk (w : World) (b : Nat) (cs : Array Value) (T : TypeId) : Prop := w.heap[b]? = some (.cells cs T (0, 0))
theorem Blk.lt {w : World} {b : Nat} {cs : Array Value} {T : TypeId} (h : Blk w b cs T) : b < w.heap.size := lt_of_block h
theorem Blk.cell {w : World} {b : Nat} {cs : Array Value} {T : TypeId} (h : Blk w b cs T) (i : Nat) {v : Value} (hv : cs[i]? = some v) : w.cell? ⟨b, i, none⟩ = some v := by
 unfold Blk at h; simp [World.cell?, h, hv]
theorem Blk.free {w : World} {b : Nat} {cs : Array Value} {T : TypeId} (h : Blk w b cs T) (i : Nat) : w.frozen? ⟨b, i, none⟩ = false := by
 unfold Blk at h; simp [World.frozen?, h]
theorem Blk.chg {S : Nat → Prop} {w w' : World} {b : Nat} {cs : Array Value} {T : TypeId} (h : Blk w b cs T) (hc : Chg S w w') (hn : ¬ S b) : Blk w' b cs T :=
 (hc.block b h.lt hn).trans h
theorem Blk.alloc {w : World} {b : Nat} {cs : Array Value} {T : TypeId} (h : Blk w b cs T) (o : Obj) : Blk (w.alloc o) b cs T :=
 (Below.heap_alloc _ _ _ h.lt).trans h
theorem Blk.drew {w : World} {b : Nat} {cs : Array Value} {T : TypeId} (h : Blk w b cs T) : Blk w.drew b cs T := h
theorem Blk.drewN {w : World} {b : Nat} {cs : Array Value} {T : TypeId} (h : Blk w b cs T) (n : Nat) : Blk (w.drewN n) b cs T := h
theorem Blk.new (w : World) (cs : Array Value) (T : TypeId) : Blk (w.alloc (.cells cs T)) w.heap.size cs T := heap_alloc_new w _
theorem Blk.set {w : World} {b : Nat} {cs : Array Value} {T : TypeId} (h : Blk w b cs T) (i : Nat) (v : Value) : Blk (w.setCell ⟨b, i, none⟩ v) b (cs.setIfInBounds i v) T := by
 have hlt := h.lt
 have h' : w.heap[b] = .cells cs T (0, 0) := by simpa [Blk, Array.getElem?_eq_getElem hlt] using h
 show (w.heap.modify b _)[b]? = _
 rw [Array.getElem?_eq_getElem (by simpa using hlt), Array.getElem_modify_self, h']
 rfl
theorem Blk.other {w : World} {b : Nat} {cs : Array Value} {T : TypeId} (h : Blk w b cs T) {p : Addr} (hp : p.block ≠ b) (v : Value) : Blk (w.setCell p v) b cs T :=
 (Below.heap_setCell _ _ _ _ (fun e => hp e.symm)).trans h
theorem add_plain (g o j : Nat) : (⟨g, o, none⟩ : Addr).add j = ⟨g, o + j, none⟩ := by unfold Addr.add; split <;> simp_all
def Of (A : Option Addr) : Nat → Prop := fun k => ∃ a, A = some a ∧ k = a.block
section
variable {α : Type} {enc : α → Value} {d : α}
def ElsAt (enc : α → Value) (d : α) (F : Nat → Prop) (w : World) (A : Option Addr) (n c : Nat) (xs : List α) : Prop :=
 (A = none → c = 0) ∧ n ≤ c ∧ c ≤ 9223372036854775807 ∧ xs.length = n ∧ (0 < n → ∃ g o, A = some ⟨g, o, none⟩ ∧ F g ∧ g < w.heap.size ∧ ∀ j, j < n → w.cell? ⟨g, o + j, none⟩ = some (enc (xs.getD j d)))
theorem ElsAt.chg {F S : Nat → Prop} {w w' : World} {A : Option Addr} {n c : Nat} {xs : List α} (h : ElsAt enc d F w A n c xs) (hc : Chg S w w') (hd : ∀ k, k < w.heap.size → F k → ¬ S k) : ElsAt enc d F w' A n c xs := by
 obtain ⟨h0, h1, h2, h3, h4⟩ := h
 refine ⟨h0, h1, h2, h3, fun hn => ?_⟩
 obtain ⟨g, o, e, hg, hlt, hcell⟩ := h4 hn
 exact ⟨g, o, e, hg, Nat.lt_of_lt_of_le hlt hc.size, fun j hj => (World.cell?_of_block (w := w) (hc.block g hlt (hd g hlt hg))).trans (hcell j hj)⟩
theorem ElsAt.mono {F G : Nat → Prop} {w : World} {A : Option Addr} {n c : Nat} {xs : List α} (h : ElsAt enc d F w A n c xs) (hF : ∀ k, k < w.heap.size → F k → G k) : ElsAt enc d G w A n c xs := by
 obtain ⟨h0, h1, h2, h3, h4⟩ := h
 refine ⟨h0, h1, h2, h3, fun hn => ?_⟩
 obtain ⟨g, o, e, hg, hlt, hcell⟩ := h4 hn
 exact ⟨g, o, e, hF g hlt hg, hlt, hcell⟩
theorem ElsAt.nil (F : Nat → Prop) (w : World) : ElsAt enc d F w none 0 0 [] := ⟨fun _ => rfl, by omega, by omega, rfl, fun h => absurd h (by omega)⟩
theorem ElsAt.tail {F : Nat → Prop} {w : World} {A A' : Option Addr} {n c : Nat} {x : α} {xs : List α} (h : ElsAt enc d F w A n c (x :: xs)) (hA : ∀ g o, A = some ⟨g, o, none⟩ → c ≠ 1 → A' = some ⟨g, o + 1, none⟩) : ElsAt enc d F w A' (n - 1) (c - 1) xs := by
 obtain ⟨h0, h1, h2, h3, h4⟩ := h
 simp only [List.length_cons] at h3
 refine ⟨fun e => ?_, by omega, by omega, by omega, fun hn => ?_⟩
 ·have h5 := h4 (by omega)
  clear h4
  obtain ⟨g, o, e', hg, hlt, hcell⟩ := h5
  by_cases hc : c = 1
  ·omega
  ·rw [hA g o e' hc] at e; simp at e
 have h5 := h4 (by omega)
 clear h4
 obtain ⟨g, o, e, hg, hlt, hcell⟩ := h5
 refine ⟨g, o + 1, hA g o e (by omega), hg, hlt, fun j hj => ?_⟩
 have := hcell (j + 1) (by omega)
 rw [show o + 1 + j = o + (j + 1) from by omega, this]
 rfl
theorem ElsAt.at_ {F : Nat → Prop} {w : World} {A : Option Addr} {n c : Nat} {xs : List α} (h : ElsAt enc d F w A n c xs) {k : Nat} (hk : k < n) : ∃ g o, A = some ⟨g, o, none⟩ ∧ F g ∧ g < w.heap.size ∧ w.cell? ⟨g, o + k, none⟩ = some (enc (xs.getD k d)) := by
 obtain ⟨_, _, _, _, h4⟩ := h
 obtain ⟨g, o, e, h5, h6, hc⟩ := h4 (by omega)
 exact ⟨g, o, e, h5, h6, hc k hk⟩
theorem ElsAt.of_own {w : World} {base : Nat} {e : TypeId} {A : Option Addr} {n c : Nat} {xs : List α} (h : w.ownsRow base e 1 (.slice A n c) n (xs.map enc)) : ElsAt enc d (fun k => Of A k ∧ base ≤ k) w A n c xs := by
 have hl : xs.length = n := by have := h.1; simpa using this
 rcases h.2 with ⟨e1, h0⟩ | ⟨g, cap, cur, e1, hb, hg, hnc, hcm, hsz, hcur⟩
 ·injection e1 with e1 e2 e3
  subst e1 e3 h0
  have : xs = [] := List.eq_nil_of_length_eq_zero hl
  subst this
  exact ElsAt.nil _ _
 ·injection e1 with e1 e2 e3
  subst e1 e3
  refine ⟨(fun h => by cases h), hnc, by unfold maxLen at hcm; omega, hl, fun hn => ⟨g, 0, rfl, ⟨⟨_, rfl, rfl⟩, hb⟩, lt_of_block hg, fun j hj => ?_⟩⟩
  have h1 : cur[j]? = some (enc (xs.getD j d)) := by
   have h2 : (cur.toList.take (n * 1))[j]? = (xs.map enc)[j]? := by rw [hcur]
   rw [List.getElem?_take, if_pos (by omega)] at h2
   rw [← Array.getElem?_toList, h2]
   have hj' : j < xs.length := by omega
   simp [hj']
  simp [World.cell?, hg, h1]
theorem ElsAt.cells {F : Nat → Prop} {w : World} {ad : Addr} {n c : Nat} {xs : List α} (h : ElsAt enc d F w (some ad) n c xs) : ∀ j u, (xs.map enc)[j]? = some u → w.cell? (ad.add j) = some u := by
 obtain ⟨h0, h1, h2, h3, h4⟩ := h
 intro j u hj
 rw [List.getElem?_map] at hj
 have hjl : j < xs.length := by
  rcases Nat.lt_or_ge j xs.length with h | h
  ·exact h
  ·simp [List.getElem?_eq_none h] at hj
 simp [hjl] at hj
 subst hj
 obtain ⟨g, o, e, hg, hlt, hcell⟩ := h4 (by omega)
 injection e with e
 subst e
 rw [show (⟨g, o, none⟩ : Addr).add j = ⟨g, o + j, none⟩ from add_plain g o j, hcell j (by omega)]
 simp [hjl]
theorem ElsAt.cells' {F : Nat → Prop} {w : World} {A : Option Addr} {n c : Nat} {xs : List α} (h : ElsAt enc d F w A n c xs) : ∀ ad, A = some ad → ∀ j u, (xs.map enc)[j]? = some u → w.cell? (ad.add j) = some u := by
 intro ad e; subst e; exact h.cells
theorem els_one (h : ∀ x, (enc x).oneCell' = true) (xs : List α) : ∀ u ∈ xs.map enc, u.oneCell' = true := by
 intro u hu; simp at hu; obtain ⟨x, _, rfl⟩ := hu; exact h x
theorem ElsAt.new {F : Nat → Prop} (w : World) (cs : Array Value) (T : TypeId) (xs : List α) (n : Nat) (hcs : cs = (xs.map enc).toArray) (hn : xs.length = n) (hm : n ≤ 9223372036854775807) (hF : F w.heap.size) : ElsAt enc d F (w.alloc (.cells cs T)) (some ⟨w.heap.size, 0, none⟩) n n xs := by
 subst hcs hn
 refine ⟨(fun h => by cases h), Nat.le_refl _, hm, rfl, fun hn => ⟨w.heap.size, 0, rfl, hF, by rw [World.size_alloc]; omega, fun j hj => ?_⟩⟩
 exact (Blk.new w _ T).cell _ (by simp [hj])
theorem drop_cons {xs : List α} {k : Nat} (h : k < xs.length) : xs.drop k = xs.getD k d :: xs.drop (k + 1) := by
 rw [List.drop_eq_getElem_cons h]; simp [h]
end
abbrev IntsAt (F : Nat → Prop) (w : World) (A : Option Addr) (n c : Nat) (xs : List Int) : Prop := ElsAt (Value.int .i64) 0 F w A n c xs
theorem nums_one (xs : List Int) (k : IntKind) : ∀ u ∈ xs.map (Value.int k), u.oneCell' = true := els_one (fun _ => rfl) xs
theorem own_slice {w : World} {base : Nat} {e : TypeId} {size n : Nat} {v : Value} {xs : List Value} (h : w.ownsRow base e size v n xs) : ∃ A c, v = .slice A n c := by
 rcases h.2 with ⟨rfl, h0⟩ | ⟨g, cap, cur, rfl, _⟩
 ·subst h0; exact ⟨none, 0, rfl⟩
 ·exact ⟨_, cap, rfl⟩
theorem ownBlock_slice (A : Option Addr) (n c k : Nat) : (Value.slice A n c).ownBlock = some k ↔ Of A k := by
 cases A with
 | none => simp [Value.ownBlock, Of]
 | some a => simp [Value.ownBlock, Of]; exact eq_comm
theorem append_gen {P : Program} {w : World} {ops : Array Oper} {rest : List Oper} {o : Oper} {a : Act} {Q : Exit → Act → World → Prop} (hgd : o.guard = none) (s x : Operand) (t : TypeId)
  (ho : o.op = .call { callee := .builtin .append, args := #[s, x], argTypes := #[t, t] })
  (base : Nat) (e : TypeId) (z : Value) (size bytes : Nat) (ht : P.underlying t = some (.slice e)) (hinfo : (P.info? e).map (fun i => (i.zero, i.size, i.bytes)) = some (some z, size, bytes))
  (hzs : z.cells.size = size) (hsz : 0 < size)
  (A : Option Addr) (c n : Nat) (xs : List Value) (hs : a.eval s = .slice A n c) (hown : w.ownsRow base e size (.slice A n c) n xs)
  (B : Option Addr) (m d : Nat) (news : List Value) (hx : a.eval x = .slice B m d) (hl : news.length = m * size) (hB : B = none → d = 0) (hmd : m ≤ d)
  (hnews : ∀ ad, B = some ad → ∀ j u, news[j]? = some u → w.cell? (ad.add j) = some u) (h1 : ∀ u ∈ news, u.oneCell' = true)
  (h63 : n + m ≤ maxLen) (hbytes : (n + m) * bytes ≤ 140737488355328) (hbase : base ≤ w.heap.size)
  (h : ∀ A' c' w', w'.ownsRow base e size (.slice A' (n + m) c') (n + m) (xs ++ news) → Chg (Of A) w w' → (A = none → m = 0 → A' = none) → (∀ k, Of A' k → Of A k ∨ w.heap.size ≤ k) → wpList P ops Q rest (a.put o.dst (.slice A' (n + m) c')) w') :
  wpList P ops Q (o :: rest) a w := by
 obtain ⟨i0, hi, hz0, hz1, hz2⟩ := info_parts hinfo
 cases B with
 | none =>
  have hd := hB rfl
  subst hd
  have hm : m = 0 := by omega
  subst hm
  have hn0 : news = [] := List.eq_nil_of_length_eq_zero (by simpa using hl)
  subst hn0
  refine wpList_append_own_none hgd s x t ho base e i0 size ht hi _ n xs hs hown hx ?_
  exact h A c w (by simpa using hown) (Chg.refl _ _) (fun e _ => e) (fun k hk => .inl hk)
 | some ad =>
  refine wpList_append_own_at w hgd s x t ho base e i0 z size bytes ht hi hz0 hz1 hz2 hzs hsz _ n xs hs hown ad m d news hx hl (hnews ad rfl) h1 h63 hbytes hbase ?_
  intro v' w' h2 h3 h4 h5
  obtain ⟨A', c', rfl⟩ := own_slice h2
  refine h A' c' w' h2 (Chg.of_grownBy h3 (fun k hk _ => (ownBlock_slice A n c k).1 hk)) ?_ ?_
  ·intro hA hm
   subst hA hm
   have hc : n = 0 ∧ c = 0 := by
    rcases hown.2 with ⟨e1, h0⟩ | ⟨g, cap, cur, e1, _⟩
    ·injection e1 with _ _ e3; exact ⟨h0, e3⟩
    ·cases e1
   obtain ⟨rfl, rfl⟩ := hc
   have := h4.2 ⟨rfl, rfl⟩
   injection this
  ·intro k hk
   have hk' := (ownBlock_slice A' (n + m) c' k).2 hk
   rcases h5 with h5 | h5
   ·left; exact (ownBlock_slice A n c k).1 (h5 ▸ hk')
   ·right
    rw [hk'] at h5
    injection h5 with h5
    omega
theorem own_of {w : World} {base : Nat} {e : TypeId} {sz n c : Nat} {A : Option Addr} {xs : List Value} (h : w.ownsRow base e sz (.slice A n c) n xs) : ∀ k, Of A k → base ≤ k ∧ k < w.heap.size := fun k hk => h.lt k ((ownBlock_slice A n c k).2 hk)
theorem own_chg {S : Nat → Prop} {w w' : World} {base : Nat} {e : TypeId} {sz n c : Nat} {A : Option Addr} {xs : List Value} (h : w.ownsRow base e sz (.slice A n c) n xs) (hc : Chg S w w') (hS : ∀ k, Of A k → ¬ S k) : w'.ownsRow base e sz (.slice A n c) n xs := by
 refine ⟨h.1, ?_⟩
 rcases h.2 with hn | ⟨g, cap, cur, e1, hb, hg, rest⟩
 ·exact .inl hn
 ·refine .inr ⟨g, cap, cur, e1, hb, ?_, rest⟩
  injection e1 with e1 _ _
  rw [hc.block g (lt_of_block hg) (hS g ⟨_, e1, rfl⟩)]
  exact hg
theorem append_one {P : Program} {w : World} {ops : Array Oper} {rest : List Oper} {o : Oper} {a : Act} {Q : Exit → Act → World → Prop} (hgd : o.guard = none) (s x : Operand) (t : TypeId)
  (ho : o.op = .call { callee := .builtin .append, args := #[s, x], argTypes := #[t, t] })
  (base : Nat) (e : TypeId) (z : Value) (bytes : Nat) (ht : P.underlying t = some (.slice e)) (hinfo : (P.info? e).map (fun i => (i.zero, i.size, i.bytes)) = some (some z, 1, bytes))
  (hzs : z.cells.size = 1)
  (A : Option Addr) (c n : Nat) (xs : List Value) (hs : a.eval s = .slice A n c) (hown : w.ownsRow base e 1 (.slice A n c) n xs)
  (u : Value) (hx : a.eval x = .slice (some ⟨w.heap.size, 0, none⟩) 1 1) (h1 : u.oneCell' = true)
  (hbytes : (n + 1) * bytes ≤ 140737488355328) (h63 : n + 1 ≤ 9223372036854775807) (hbase : base ≤ w.heap.size)
  (h : ∀ A' c' w', w'.ownsRow base e 1 (.slice A' (n + 1) c') (n + 1) (xs ++ [u]) → Chg (Of A) w w' → (∀ k, Of A' k → Of A k ∨ w.heap.size ≤ k) → wpList P ops Q rest (a.put o.dst (.slice A' (n + 1) c')) w') :
  wpList P ops Q (o :: rest) a (w.alloc (.cells #[u] e)) := by
 refine append_gen hgd s x t ho base e z 1 bytes ht hinfo hzs (by decide) A c n xs hs (own_chg hown ((Chg.refl Nothing w).alloc _) (fun _ _ h => h)) (some ⟨w.heap.size, 0, none⟩) 1 1 [u] hx rfl (fun e => by cases e) (Nat.le_refl _) ?_ ?_ (by unfold maxLen; omega) hbytes (by rw [World.size_alloc]; omega) ?_
 ·intro ad e; injection e with e; subst e; exact cell_one_new w u _
 ·intro v hv; simp at hv; subst hv; exact h1
 ·intro A' c' w' h2 h3 _ h4
  refine h A' c' w' h2 (((Chg.refl (Of A) w).alloc _).then h3 (fun k _ h => h)) (fun k hk => ?_)
  rcases h4 k hk with h | h
  ·exact .inl h
  ·right; rw [World.size_alloc] at h; omega
theorem own_at {w : World} {base : Nat} {e : TypeId} {n c : Nat} {A : Option Addr} {vs : List Value} (h : w.ownsRow base e 1 (.slice A n c) n vs) {k : Nat} (hk : k < n) (d : Value) :
  ∃ g, A = some ⟨g, 0, none⟩ ∧ base ≤ g ∧ g < w.heap.size ∧ w.cell? ⟨g, k, none⟩ = some (vs.getD k d) ∧ w.frozen? ⟨g, k, none⟩ = false ∧ ∀ W u, (∃ S, Chg S w W ∧ ¬ S g) → (W.setCell ⟨g, k, none⟩ u).ownsRow base e 1 (.slice A n c) n (vs.set k u) := by
 have hl := h.1
 rcases h.2 with ⟨e1, h0⟩ | ⟨g, cap, cur, e1, hb, hg, hnc, hcm, hsz, hcur⟩
 ·omega
 ·injection e1 with e1 e2 e3
  subst e1 e3
  have hB : Blk w g cur e := hg
  have hv : cur[k]? = some (vs.getD k d) := by
   have h2 : (cur.toList.take (n * 1))[k]? = vs[k]? := by rw [hcur]
   rw [List.getElem?_take, if_pos (by omega)] at h2
   rw [← Array.getElem?_toList, h2]
   have hk' : k < vs.length := by omega
   simp [hk']
  refine ⟨g, rfl, hb, hB.lt, hB.cell k hv, hB.free k, fun W u ⟨S, hc, hS⟩ => ⟨by simpa using hl, .inr ⟨g, c, cur.setIfInBounds k u, rfl, hb, (hB.chg hc hS).set k u, hnc, hcm, by simpa using hsz, ?_⟩⟩⟩
  rw [Array.toList_setIfInBounds, List.take_set, hcur]
theorem run_tail {P : Program} {t : TypeId} (ht : P.underlying t = some (.slice (P.elem t))) (hs : ∀ w, (sizeOf (P.elem t)).run P w = .ok 1 w) (A : Option Addr) (n c : Nat) (hn : 1 ≤ n) (hA : ∃ g o, A = some ⟨g, o, none⟩) :
  ∃ A1, (∀ g o, A = some ⟨g, o, none⟩ → c ≠ 1 → A1 = some ⟨g, o + 1, none⟩) ∧ ∀ W, (Instr.slice t (.slice A n c) (some (.int .i64 1)) none none).run P W = .ok (.slice A1 (n - 1) (c - 1)) W := by
 obtain ⟨g, o, rfl⟩ := hA
 by_cases hc : c = 1
 ·refine ⟨some ⟨g, o, none⟩, fun g' o' _ h => absurd hc h, fun W => ?_⟩
  rw [run_slice_l (w := W) t _ n c ht .i64 1 (by omega) (by omega), hs]
  simp [sliced, hc, Result.andThen]
 ·refine ⟨some ⟨g, o + 1, none⟩, fun g' o' e _ => ?_, fun W => ?_⟩
  ·injection e with e; injection e with e1 e2; subst e1 e2; rfl
  ·rw [run_slice_l (w := W) t _ n c ht .i64 1 (by omega) (by omega), hs]
   simp [sliced, Result.andThen, Addr.add]
   try omega
end Go.Proofs.YtoelilejohfglaaGreat
namespace Go.Proofs.YtoelilejohfglaaGreat
open Go.RowKit
set_option linter.unusedVariables false
set_option linter.unusedSimpArgs false
def splice : Array Value → Nat → List Value → Array Value
 | A, _, [] => A
 | A, o, v :: r => splice (A.setIfInBounds o v) (o + 1) r
theorem Blk.setCells {b : Nat} {T : TypeId} : ∀ (vs : List Value) (o : Nat) (w : World) (cs : Array Value), Blk w b cs T → Blk (w.setCells b o vs) b (splice cs o vs) T
 | [], _, _, _, h => h
 | v :: r, o, w, cs, h => by rw [World.setCells, splice]; exact Blk.setCells r (o + 1) _ _ (h.set o v)
theorem Chg.setCells {S : Nat → Prop} {b : Nat} : ∀ (vs : List Value) (o : Nat) (a w : World), Chg S a w → (b < a.heap.size → S b) → Chg S a (w.setCells b o vs)
 | [], _, _, _, h, _ => h
 | v :: r, o, a, w, h, hb => by rw [World.setCells]; exact Chg.setCells r (o + 1) a _ (h.setCell ⟨b, o, none⟩ hb v) hb
theorem Blk.there {w : World} {b : Nat} {cs : Array Value} {T : TypeId} (h : Blk w b cs T) (o n : Nat) (hn : o + n ≤ cs.size) : w.there b o n := fun j hj => by
 have hlt : o + j < cs.size := by omega
 exact ⟨by rw [h.cell (o + j) (Array.getElem?_eq_getElem hlt)]; rfl, h.free (o + j)⟩
theorem store_in {P : Program} {w : World} {ops : Array Oper} {rest : List Oper} {o : Oper} {a : Act} {Q : Exit → Act → World → Prop} (hgd : o.guard = none) (ty : TypeId) (x y : Operand) (ho : o.op = .store ty x y)
  (b k : Nat) (hx : a.eval x = .pointer (some ⟨b, k, none⟩)) (cs : Array Value) (hy : a.eval y = .agg cs) {cs0 : Array Value} {T : TypeId} (hB : Blk w b cs0 T)
  (hsz : k + cs.size ≤ cs0.size) (hi : (P.info? ty).map (·.size) = some cs.size) (h1 : cs.toList.all (·.oneCell') = true)
  (h : ∀ w', Blk w' b (splice cs0 k cs.toList) T → Chg (One b) w w' → wpList P ops Q rest (a.put o.dst undef) w') : wpList P ops Q (o :: rest) a w :=
 wpList_store_mid hgd ty x y ho b k cs hx hy (hB.there k cs.size hsz) hi (by rw [← Array.all_toList]; exact h1) (h _ (Blk.setCells _ _ _ _ hB) (Chg.setCells _ _ _ _ (Chg.refl _ _) (fun _ => rfl)))
theorem splice_get : ∀ (vs : List Value) (A : Array Value) (o i : Nat), o + vs.length ≤ A.size → (splice A o vs)[i]? = if o ≤ i ∧ i < o + vs.length then vs[i - o]? else A[i]?
 | [], A, o, i, h => by rw [splice, if_neg (by intro h; simp only [List.length_nil] at h; omega)]
 | v :: r, A, o, i, h => by
  simp only [List.length_cons] at h ⊢
  rw [splice, splice_get r _ (o + 1) i (by simp; omega)]
  by_cases e : i = o
  ·subst e
   rw [if_neg (by omega), if_pos (by omega)]
   simp [Array.getElem?_setIfInBounds]
   try omega
  ·by_cases h2 : o + 1 ≤ i ∧ i < o + 1 + r.length
   ·rw [if_pos h2, if_pos (by omega)]
    rw [show i - o = (i - (o + 1)) + 1 from by omega]; rfl
   ·rw [if_neg h2, if_neg (by omega), Array.getElem?_setIfInBounds, if_neg (by omega)]
theorem splice_whole (cs0 cs : Array Value) (h : cs.size = cs0.size) : splice cs0 0 cs.toList = cs := by
 apply Array.ext_getElem?
 intro i
 rw [splice_get _ _ _ _ (by simp; omega)]
 split
 ·simp
 ·rename_i hn
  rw [Array.getElem?_eq_none (by simp at hn; omega), Array.getElem?_eq_none (by simp at hn; omega)]
theorem store_blk {P : Program} {w : World} {ops : Array Oper} {rest : List Oper} {o : Oper} {a : Act} {Q : Exit → Act → World → Prop} (hgd : o.guard = none) (ty : TypeId) (x y : Operand) (ho : o.op = .store ty x y)
  (b : Nat) (hx : a.eval x = .pointer (some ⟨b, 0, none⟩)) (cs : Array Value) (hy : a.eval y = .agg cs) {cs0 : Array Value} {T : TypeId} (hB : Blk w b cs0 T)
  (hsz : cs.size = cs0.size) (hi : (P.info? ty).map (·.size) = some cs.size) (h1 : cs.toList.all (·.oneCell') = true)
  (h : ∀ w', Blk w' b cs T → Chg (One b) w w' → wpList P ops Q rest (a.put o.dst undef) w') : wpList P ops Q (o :: rest) a w :=
 store_in hgd ty x y ho b 0 hx cs hy hB (by omega) hi h1 fun w' hb hc => h w' (by rw [splice_whole cs0 cs hsz] at hb; exact hb) hc
def Halted (p : Prop) : Prop := p
theorem halt_op {P : Program} {w : World} {ops : Array Oper} {rest : List Oper} {d : Option Tmp} {ty : TypeId} {pos : String} {af : Array Edge} {g : Option (Nat × Bool)} {a : Act} {Q : Exit → Act → World → Prop} (p : Op) (h : Halted (wpList P ops Q (⟨d, p, ty, pos, af, g⟩ :: rest) a w)) : wpList P ops Q (⟨d, p, ty, pos, af, g⟩ :: rest) a w := h
def jumps (J : Nat → Act → World → Prop) (Q : Exit → Act → World → Prop) : Exit → Act → World → Prop
 | .goto l, a, w => J l a w
 | e, a, w => Q e a w
theorem wp_scope_labels {P : Program} {a : Act} {w : World} {Q : Exit → Act → World → Prop} {c : Code} (rest : Nat → Code) (J : Nat → Act → World → Prop) (μ : Nat → Act → World → Nat)
  (hf : ∀ l a w, J l a w → findLabel c l = some (rest l)) (first : c.wp P (jumps J Q) a w)
  (pass : ∀ l a w, J l a w → (rest l).wp P (jumps (fun l' a' w' => J l' a' w' ∧ μ l' a' w' < μ l a w) Q) a w) : (Code.scope c).wp P Q a w := by
 intro b k cs
 have hg : ∀ l a w, J l a w → gotoIn l (.inScope c :: k) = some (.code (rest l) :: .inScope c :: k) := fun l a w hJ => by simp [gotoIn, hf l a w hJ]
 have key : ∀ n l a w, μ l a w = n → J l a w → ∃ e a' w', Q e a' w' ∧ Arrives P (lone (b.at a (.code (rest l) :: .inScope c :: k)) cs w) b k cs e a' w' := by
  intro n
  induction n using Nat.strongRecOn with
  | _ n ih =>
   intro l a w hn hJ
   obtain ⟨e, a₁, w₁, hq, harr⟩ := pass l a w hJ b (.inScope c :: k) cs
   cases e with
   | normal => exact ⟨.normal, a₁, w₁, hq, Steps.trans harr (.one step_inScope)⟩
   | exit id => exact ⟨.exit id, a₁, w₁, hq, fun k' hk => harr k' (by simp [exitTo, hk])⟩
   | goto l' =>
    obtain ⟨hJ', hlt⟩ := hq
    obtain ⟨e₂, a₂, w₂, hq₂, harr₂⟩ := ih _ (by omega) l' a₁ w₁ rfl hJ'
    exact ⟨e₂, a₂, w₂, hq₂, .of_steps (harr _ (hg l' a₁ w₁ hJ')) harr₂⟩
   | ret => exact ⟨_, a₁, w₁, hq, harr⟩
   | panic ch => exact ⟨_, a₁, w₁, hq, harr⟩
   | outgrown => exact ⟨_, a₁, w₁, hq, harr⟩
 obtain ⟨e, a₁, w₁, hq, harr⟩ := first b (.inScope c :: k) cs
 cases e with
 | normal => exact ⟨.normal, a₁, w₁, hq, .head step_scope (Steps.trans harr (.one step_inScope))⟩
 | exit id => exact ⟨.exit id, a₁, w₁, hq, fun k' hk => .head step_scope (harr k' (by simp [exitTo, hk]))⟩
 | goto l' =>
  obtain ⟨e₂, a₂, w₂, hq₂, harr₂⟩ := key _ l' a₁ w₁ rfl hq
  exact ⟨e₂, a₂, w₂, hq₂, .of_steps (.head step_scope (harr _ (hg l' a₁ w₁ hq))) harr₂⟩
 | ret => exact ⟨_, a₁, w₁, hq, .of_steps (.one step_scope) harr⟩
 | panic ch => exact ⟨_, a₁, w₁, hq, .of_steps (.one step_scope) harr⟩
 | outgrown => exact ⟨_, a₁, w₁, hq, .of_steps (.one step_scope) harr⟩
theorem jumps_mono {J J' : Nat → Act → World → Prop} {Q : Exit → Act → World → Prop} (h : ∀ l a w, J l a w → J' l a w) : ∀ (e : Exit) (a : Act) (w : World), jumps J Q e a w → jumps J' Q e a w := fun e a w hj => by
 cases e <;> first | exact h _ _ _ hj | exact hj
theorem wp_skip_seq {P : Program} {a : Act} {w : World} {Q : Exit → Act → World → Prop} {c : Code} (h : c.wp P Q a w) : (Code.skip.seq c).wp P Q a w := by
 refine wp_seq ?_
 refine wp_skip ?_
 exact h
theorem wp_scope_one {P : Program} {a : Act} {w : World} {Q : Exit → Act → World → Prop} {c rl : Code} (l : Nat) (J : Act → World → Prop) (μ : Act → World → Nat) (hl : findLabel c l = some (Code.skip.seq rl))
  (pass : ∀ a w, J a w → rl.wp P (jumps (fun l' a' w' => l' = l ∧ J a' w' ∧ μ a' w' < μ a w) Q) a w)
  (first : (∀ a w, J a w → rl.wp P (jumps (fun l' a' w' => l' = l ∧ J a' w') Q) a w) → c.wp P (jumps (fun l' a' w' => l' = l ∧ J a' w') Q) a w) : (Code.scope c).wp P Q a w := by
 refine wp_scope_labels (fun _ => Code.skip.seq rl) (fun l' a' w' => l' = l ∧ J a' w') (fun _ a' w' => μ a' w') ?_ ?_ ?_
 ·rintro l' a' w' ⟨rfl, _⟩; exact hl
 ·refine first fun a' w' hJ => Code.wp_mono (jumps_mono ?_) (pass a' w' hJ)
  rintro l' a2 w2 ⟨h1, h2, _⟩; exact ⟨h1, h2⟩
 ·rintro l' a' w' ⟨rfl, hJ⟩
  refine Code.wp_mono (jumps_mono ?_) (wp_skip_seq (pass a' w' hJ))
  rintro l2 a2 w2 ⟨rfl, h2, h3⟩; exact ⟨⟨rfl, h2⟩, h3⟩
structure RowAt (sz : Nat) (F : Nat → Prop) (w : World) (A : Option Addr) (n c : Nat) (vs : List Value) : Prop where
 nil : A = none → c = 0
 le : n ≤ c
 max : c ≤ 9223372036854775807
 len : vs.length = n * sz
 cells : 0 < n → ∃ g o, A = some ⟨g, o, none⟩ ∧ F g ∧ g < w.heap.size ∧ ∀ j, j < n * sz → w.cell? ⟨g, o + j, none⟩ = some (vs.getD j undef)
theorem RowAt.chg {sz : Nat} {F S : Nat → Prop} {w w' : World} {A : Option Addr} {n c : Nat} {vs : List Value} (h : RowAt sz F w A n c vs) (hc : Chg S w w') (hd : ∀ k, k < w.heap.size → F k → ¬ S k) : RowAt sz F w' A n c vs := by
 refine ⟨h.nil, h.le, h.max, h.len, fun hn => ?_⟩
 obtain ⟨g, o, e, hg, hlt, hcell⟩ := h.cells hn
 exact ⟨g, o, e, hg, Nat.lt_of_lt_of_le hlt hc.size, fun j hj => (World.cell?_of_block (w := w) (hc.block g hlt (hd g hlt hg))).trans (hcell j hj)⟩
theorem RowAt.mono {sz : Nat} {F G : Nat → Prop} {w : World} {A : Option Addr} {n c : Nat} {vs : List Value} (h : RowAt sz F w A n c vs) (hF : ∀ k, k < w.heap.size → F k → G k) : RowAt sz G w A n c vs := by
 refine ⟨h.nil, h.le, h.max, h.len, fun hn => ?_⟩
 obtain ⟨g, o, e, hg, hlt, hcell⟩ := h.cells hn
 exact ⟨g, o, e, hF g hlt hg, hlt, hcell⟩
theorem RowAt.none (sz : Nat) (F : Nat → Prop) (w : World) : RowAt sz F w none 0 0 [] := ⟨fun _ => rfl, by omega, by omega, by simp, fun h => absurd h (by omega)⟩
theorem RowAt.of_own {w : World} {base : Nat} {e : TypeId} {sz : Nat} {A : Option Addr} {n c : Nat} {vs : List Value} (h : w.ownsRow base e sz (.slice A n c) n vs) : RowAt sz (fun k => Of A k ∧ base ≤ k) w A n c vs := by
 have hl := h.1
 rcases h.2 with ⟨e1, h0⟩ | ⟨g, cap, cur, e1, hb, hg, hnc, hcm, hsz, hcur⟩
 ·injection e1 with e1 e2 e3
  subst e1 e3 h0
  have : vs = [] := List.eq_nil_of_length_eq_zero (by omega)
  subst this
  exact RowAt.none _ _ _
 ·injection e1 with e1 e2 e3
  subst e1 e3
  refine ⟨(fun h => by cases h), hnc, by unfold maxLen at hcm; omega, by simpa using hl, fun hn => ⟨g, 0, rfl, ⟨⟨_, rfl, rfl⟩, hb⟩, lt_of_block hg, fun j hj => ?_⟩⟩
  have h1 : cur[j]? = some (vs.getD j undef) := by
   have h2 : (cur.toList.take (n * sz))[j]? = vs[j]? := by rw [hcur]
   rw [List.getElem?_take, if_pos hj] at h2
   rw [← Array.getElem?_toList, h2]
   have hj' : j < vs.length := by omega
   simp [hj']
  simp [World.cell?, hg, h1]
theorem RowAt.cell {sz : Nat} {F : Nat → Prop} {w : World} {A : Option Addr} {n c : Nat} {vs : List Value} (h : RowAt sz F w A n c vs) {k : Nat} (hk : k < n) (hs : 0 < sz) :
  ∃ g o, A = some ⟨g, o, .none⟩ ∧ F g ∧ g < w.heap.size ∧ ∀ j, j < sz → w.cell? ⟨g, o + k * sz + j, .none⟩ = some (vs.getD (k * sz + j) undef) := by
 obtain ⟨g, o, e, hg, hlt, hcell⟩ := h.cells (by omega)
 refine ⟨g, o, e, hg, hlt, fun j hj => ?_⟩
 have : k * sz + j < n * sz := by
  have h1 : (k + 1) * sz ≤ n * sz := Nat.mul_le_mul_right sz hk
  rw [Nat.add_mul, Nat.one_mul] at h1; omega
 rw [Nat.add_assoc]
 exact hcell _ this
theorem flat_getD {α : Type} (f : α → List Value) (sz : Nat) (hf : ∀ x, (f x).length = sz) (d : α) : ∀ (xs : List α) (k j : Nat), k < xs.length → j < sz → (xs.flatMap f).getD (k * sz + j) undef = (f (xs.getD k d)).getD j undef
 | [], k, j, h, _ => by simp at h
 | x :: xs, 0, j, h, hj => by
  rw [List.flatMap_cons, Nat.zero_mul, Nat.zero_add]
  have hx : j < (f x).length := by rw [hf]; exact hj
  simp [List.getElem?_append_left hx]
 | x :: xs, k + 1, j, h, hj => by
  rw [List.flatMap_cons]
  have e : (k + 1) * sz + j = (f x).length + (k * sz + j) := by rw [hf, Nat.add_mul, Nat.one_mul]; omega
  rw [e]
  have := flat_getD f sz hf d xs k j (by simpa using h) hj
  simp only [List.getD_eq_getElem?_getD] at this ⊢
  rw [List.getElem?_append_right (by omega), Nat.add_sub_cancel_left, this]
  simp
theorem flat_len {α : Type} (f : α → List Value) (sz : Nat) (hf : ∀ x, (f x).length = sz) : ∀ (xs : List α), (xs.flatMap f).length = xs.length * sz
 | [] => by simp
 | x :: xs => by rw [List.flatMap_cons, List.length_append, flat_len f sz hf xs, hf, List.length_cons, Nat.add_mul, Nat.one_mul]; omega
theorem run_append_gen {P : Program} {w : World} (base : Nat) (t ty e : TypeId) (z : Value) (size bytes : Nat) (ht : P.underlying t = some (.slice e)) (hinfo : (P.info? e).map (fun i => (i.zero, i.size, i.bytes)) = some (some z, size, bytes))
  (hzs : z.cells.size = size) (hsz : 0 < size) (A : Option Addr) (c n : Nat) (xs : List Value) (hown : w.ownsRow base e size (.slice A n c) n xs)
  (B : Option Addr) (m d : Nat) (news : List Value) (hl : news.length = m * size) (hB : B = none → d = 0) (hmd : m ≤ d)
  (hnews : ∀ ad, B = some ad → ∀ j u, news[j]? = some u → w.cell? (ad.add j) = some u) (h1 : ∀ u ∈ news, u.oneCell' = true)
  (h63 : n + m ≤ maxLen) (hbytes : (n + m) * bytes ≤ 140737488355328) (hbase : base ≤ w.heap.size) :
  ∃ A' c' w', (Builtin.append_ #[t, t] ty #[.slice A n c, .slice B m d]).run P w = .ok (.slice A' (n + m) c') w' ∧ w'.ownsRow base e size (.slice A' (n + m) c') (n + m) (xs ++ news) ∧ Chg (Of A) w w' ∧ (∀ k, Of A' k → Of A k ∨ w.heap.size ≤ k) := by
 obtain ⟨i0, hi, hz0, hz1, hz2⟩ := info_parts hinfo
 cases B with
 | none =>
  have hd := hB rfl
  subst hd
  have hm : m = 0 := by omega
  subst hm
  have hn0 : news = [] := List.eq_nil_of_length_eq_zero (by simpa using hl)
  subst hn0
  exact ⟨A, c, w, run_append_owned_none (P := P) (w := w) base t ty e i0 size ht hi _ n xs hown, by simpa using hown, Chg.refl _ _, fun k hk => .inl hk⟩
 | some ad =>
  obtain ⟨v', w', hr, h2, h3, h4, h5⟩ := run_append_own_at (P := P) w base t ty e i0 z size bytes ht hi hz0 hz1 hz2 hzs hsz _ n xs hown ad m d news hl (hnews ad rfl) h1 h63 hbytes hbase
  obtain ⟨A', c', rfl⟩ := own_slice h2
  refine ⟨A', c', w', hr, h2, Chg.of_grownBy h3 (fun k hk _ => (ownBlock_slice A n c k).1 hk), fun k hk => ?_⟩
  have hk' := (ownBlock_slice A' (n + m) c' k).2 hk
  rcases h5 with h5 | h5
  ·left; exact (ownBlock_slice A n c k).1 (h5 ▸ hk')
  ·right
   rw [hk'] at h5
   injection h5 with h5
   omega
theorem step_append_gen {P : Program} {w : World} {ops : Array Oper} {o : Oper} {a : Act} {K : Act → World → Prop} {Q : Exit → Act → World → Prop} {E : Prop} (hgd : o.guard = none) (s x : Operand) (t : TypeId)
  (ho : o.op = .call { callee := .builtin .append, args := #[s, x], argTypes := #[t, t] })
  (base : Nat) (e : TypeId) (z : Value) (size bytes : Nat) (ht : P.underlying t = some (.slice e)) (hinfo : (P.info? e).map (fun i => (i.zero, i.size, i.bytes)) = some (some z, size, bytes))
  (hzs : z.cells.size = size) (hsz : 0 < size)
  (A : Option Addr) (c n : Nat) (xs : List Value) (hs : a.eval s = .slice A n c) (hown : w.ownsRow base e size (.slice A n c) n xs)
  (B : Option Addr) (m d : Nat) (news : List Value) (hx : a.eval x = .slice B m d) (hl : news.length = m * size) (hB : B = none → d = 0) (hmd : m ≤ d)
  (hnews : ∀ ad, B = some ad → ∀ j u, news[j]? = some u → w.cell? (ad.add j) = some u) (h1 : ∀ u ∈ news, u.oneCell' = true)
  (h63 : n + m ≤ maxLen) (hbytes : (n + m) * bytes ≤ 140737488355328) (hbase : base ≤ w.heap.size)
  (h : ∀ A' c' w', w'.ownsRow base e size (.slice A' (n + m) c') (n + m) (xs ++ news) → Chg (Of A) w w' → (∀ k, Of A' k → Of A k ∨ w.heap.size ≤ k) → K (a.put o.dst (.slice A' (n + m) c')) w') :
  if Region.wanted o (yielded ops a.tmps) = true then Oper.wp P o a w K Q else E := by
 have hw : Region.wanted o (yielded ops a.tmps) = true := by simp [Region.wanted, hgd]
 rw [if_pos hw]
 obtain ⟨A', c', w', hr, h2, h3, h4⟩ := run_append_gen (P := P) base t o.type e z size bytes ht hinfo hzs hsz A c n xs hown B m d news hl hB hmd hnews h1 h63 hbytes hbase
 unfold Oper.wp execOp
 simp only [ho, resolve, invoke, builtin, Sem.run_bind, Sem.run_pure, Result.andThen_ok, List.map_toArray, List.map_cons, List.map_nil, hs, hx, hr]
 exact h A' c' w' h2 h3 h4
structure Calm (w : World) where
 val : World
 chg : Chg Nothing w val
instance (w : World) : Nonempty (Calm w) := ⟨⟨w, Chg.refl _ _⟩⟩
theorem Calm.cell {w : World} {g o : Nat} {v : Value} (hg : g < w.heap.size) (h : w.cell? ⟨g, o, none⟩ = some v) : ∀ n : Calm w, n.val.cell? ⟨g, o, none⟩ = some v :=
 fun n => (World.cell?_of_block (w := w) (n.chg.block g hg id)).trans h
theorem wp_region_calm_lit {P : Program} {id : Nat} {Q : Exit → Act → World → Prop} {a : Act} {w : World} {l : List Oper} (hm : P.follows .mixedOrders = true) (hB : Region.lexB .any l.toArray = true)
  (h : wpQuiet P l.toArray (fun w' => ∃ n : Calm w, w' = n.val) (fun a' => ∀ w', (∃ n : Calm w, w' = n.val) → Q .normal a' w') l a) : (Code.region id l.toArray true).wp P Q a w :=
 wp_region_quiet (C := fun w' => ∃ n : Calm w, w' = n.val) hm hB ⟨⟨_, (Chg.refl Nothing w).drew⟩, rfl⟩ (by simpa using h)
theorem calm_of {P : Program} {f : FuncId} {args : Array Value} {w : World} {n : Calm w} {v : Value}
  (h : Calls P f args n.val fun e w' => e = .returned v ∧ Chg Nothing n.val w') : Calls P f args n.val fun e w'' => e = .returned v ∧ ∃ m : Calm w, w'' = m.val :=
 h.mono fun _ w'' ⟨he, hc⟩ => ⟨he, ⟨w'', n.chg.trans hc⟩, rfl⟩
theorem calm_same {P : Program} {f : FuncId} {args : Array Value} {w : World} {n : Calm w} {v : Value}
  (h : Calls P f args n.val fun e w' => e = .returned v ∧ w' = n.val) : Calls P f args n.val fun e w'' => e = .returned v ∧ ∃ m : Calm w, w'' = m.val :=
 h.mono fun _ _ ⟨he, hc⟩ => ⟨he, n, hc⟩
theorem Calm.step {w w0 w' : World} (h0 : Chg Nothing w w0) (h : Chg Nothing w0 w') : ∃ m : Calm w, m.val = w' := ⟨⟨w', h0.trans h⟩, rfl⟩
end Go.Proofs.YtoelilejohfglaaGreat
namespace Go.Proofs.YtoelilejohfglaaGreat
open Go.RowKit
set_option linter.unusedVariables false
set_option linter.unusedSimpArgs false
theorem rowAt_four {α : Type} {f : α → List Value} {d : α} {F : Nat → Prop} {w : World} {A : Option Addr} {n c : Nat} {xs : List α} (h : RowAt 4 F w A n c (xs.flatMap f)) (hf : ∀ x, (f x).length = 4) (hl : xs.length = n) {k : Nat} (hk : k < n) :
  ∃ g o, A = some ⟨g, o, none⟩ ∧ F g ∧ g < w.heap.size ∧ w.cell? ⟨g, o + k * 4, none⟩ = some ((f (xs.getD k d)).getD 0 undef) ∧ w.cell? ⟨g, o + k * 4 + 1, none⟩ = some ((f (xs.getD k d)).getD 1 undef) ∧ w.cell? ⟨g, o + k * 4 + 2, none⟩ = some ((f (xs.getD k d)).getD 2 undef) ∧ w.cell? ⟨g, o + k * 4 + 3, none⟩ = some ((f (xs.getD k d)).getD 3 undef) := by
 obtain ⟨g, o, e, hF, hlt, hc⟩ := h.cell hk (by decide)
 have c0 := hc 0 (by decide)
 have c1 := hc 1 (by decide)
 have c2 := hc 2 (by decide)
 have c3 := hc 3 (by decide)
 rw [flat_getD f 4 hf d xs k _ (by omega) (by decide)] at c0 c1 c2 c3
 exact ⟨g, o, e, hF, hlt, c0, c1, c2, c3⟩
theorem rowAt_piece {sz : Nat} {F : Nat → Prop} {w : World} {A A1 : Option Addr} {n c m d : Nat} {vs us ws : List Value} (h : RowAt sz F w A n c (vs ++ us ++ ws)) {k : Nat} (hk : vs.length = k * sz) (hm : us.length = m * sz) (hkn : k + m ≤ n) (hd : m ≤ d) (hdc : d ≤ c) (hz : A1 = none → d = 0)
  (hA : 0 < m → ∀ g o, A = some ⟨g, o, none⟩ → A1 = some ⟨g, o + k * sz, none⟩) : RowAt sz F w A1 m d us := by
 have hmx := h.max
 refine ⟨hz, hd, by omega, hm, fun h0 => ?_⟩
 obtain ⟨g, o, e, hF, hlt, hc⟩ := h.cells (by omega)
 refine ⟨g, o + k * sz, hA h0 g o e, hF, hlt, fun j hj => ?_⟩
 have hlt2 : k * sz + j < n * sz := by
  have h1 : (k + m) * sz ≤ n * sz := Nat.mul_le_mul_right sz hkn
  rw [Nat.add_mul] at h1; omega
 have := hc (k * sz + j) hlt2
 rw [← Nat.add_assoc] at this
 rw [this]
 congr 1
 simp only [List.getD_eq_getElem?_getD]
 rw [List.append_assoc, List.getElem?_append_right (by omega), hk, Nat.add_sub_cancel_left, List.getElem?_append_left (by omega)]
def pieceA (A : Option Addr) (lo c sz : Nat) : Option Addr := if c = lo then A else A.map (·.add (lo * sz))
theorem rowAt_cut {sz : Nat} {F : Nat → Prop} {w : World} {A : Option Addr} {n c m : Nat} {vs us ws : List Value} (h : RowAt sz F w A n c (vs ++ us ++ ws)) {k : Nat} (hk : vs.length = k * sz) (hm : us.length = m * sz) (hkn : k + m ≤ n) : RowAt sz F w (pieceA A k c sz) m (c - k) us := by
 have hle := h.le
 refine rowAt_piece h hk hm hkn (by omega) (by omega) ?_ ?_
 ·intro e
  unfold pieceA at e
  by_cases hc : c = k
  ·omega
  ·rw [if_neg hc] at e
   cases A with
   | none => have := h.nil rfl; omega
   | some a => simp at e
 ·intro h0 g o e
  unfold pieceA
  rw [if_neg (by omega), e]
  simp [add_plain]
section
variable {P : Program} {t : TypeId} {sz : Nat}
theorem run_from (ht : P.underlying t = some (.slice (P.elem t))) (hs : ∀ w, (sizeOf (P.elem t)).run P w = .ok sz w) (A : Option Addr) (n c : Nat) (z : Int) (lo : Nat) (hz : z = lo) (h1 : lo ≤ n) :
  ∀ W, (Instr.slice t (.slice A n c) (some (.int .i64 z)) none none).run P W = .ok (.slice (pieceA A lo c sz) (n - lo) (c - lo)) W := by
 intro W
 subst hz
 rw [run_slice_l (w := W) t _ n c ht .i64 (lo : Int) (by omega) (by omega), hs]
 simp [sliced, pieceA, Result.andThen]
theorem run_between (ht : P.underlying t = some (.slice (P.elem t))) (hs : ∀ w, (sizeOf (P.elem t)).run P w = .ok sz w) (A : Option Addr) (n c : Nat) (z y : Int) (lo hi : Nat) (hz : z = lo) (hy : y = hi) (h1 : lo ≤ hi) (h2 : hi ≤ c) :
  ∀ W, (Instr.slice t (.slice A n c) (some (.int .i64 z)) (some (.int .i64 y)) none).run P W = .ok (.slice (pieceA A lo c sz) (hi - lo) (c - lo)) W := by
 intro W
 subst hz hy
 rw [run_slice_lh (w := W) t _ n c ht .i64 .i64 (lo : Int) (hi : Int) (by omega) (by omega) (by omega), hs]
 simp [sliced, pieceA, Result.andThen]
theorem run_upto (ht : P.underlying t = some (.slice (P.elem t))) (hs : ∀ w, (sizeOf (P.elem t)).run P w = .ok sz w) (A : Option Addr) (n c : Nat) (y : Int) (hi : Nat) (hy : y = hi) (h2 : hi ≤ c) :
  ∀ W, (Instr.slice t (.slice A n c) none (some (.int .i64 y)) none).run P W = .ok (.slice (pieceA A 0 c sz) hi c) W := by
 intro W
 subst hy
 rw [run_slice_h (w := W) t _ n c ht .i64 (hi : Int) (by omega) (by omega), hs]
 simp [sliced, pieceA, Result.andThen]
end
theorem rowAt_news {sz : Nat} {F : Nat → Prop} {w : World} {A : Option Addr} {n c : Nat} {vs : List Value} (h : RowAt sz F w A n c vs) : ∀ ad, A = some ad → ∀ j u, vs[j]? = some u → w.cell? (ad.add j) = some u := by
 intro ad ha j u hj
 have hl := h.len
 obtain ⟨hjl, hju⟩ := List.getElem?_eq_some_iff.1 hj
 have hn : 0 < n := by
  rcases Nat.eq_zero_or_pos n with h0 | h0
  ·subst h0; omega
  ·exact h0
 obtain ⟨g, o, e, -, -, hc⟩ := h.cells hn
 rw [ha] at e; injection e with e; subst e
 rw [add_plain, hc j (by omega), List.getD_eq_getElem?_getD, hj]; rfl
theorem flat_one {α : Type} (f : α → List Value) (hf : ∀ x, ∀ u ∈ f x, u.oneCell' = true) (xs : List α) : ∀ u ∈ xs.flatMap f, u.oneCell' = true := by
 intro u hu
 obtain ⟨x, _, hx⟩ := List.mem_flatMap.1 hu
 exact hf x u hx
end Go.Proofs.YtoelilejohfglaaGreat
