/- Joined texts: ZedA ZedB ZedC ZedD. -/
import Derived.Test.YtoelilejohfglaaGreatBunR
import Derived.Test.YtoelilejohfglaaGreatBunS
import Derived.Lib.LazyBuf
import Derived.Test.YtoelilejohfglaaGreatBunW
set_option maxHeartbeats 16000000
set_option maxRecDepth 100000
namespace Go.Proofs.YtoelilejohfglaaGreat
open Go.RowKit
set_option linter.unusedVariables false
set_option linter.unusedSimpArgs false
def byS (s : ByteArray) (i : Nat) : Nat := (s.data[i]?.getD 0).toNat
def Goes (s t : ByteArray) (i n : Nat) : Prop := n ≤ s.size ∧ i + n ≤ t.size ∧ ∀ j, j < n → byS s j = byS t (i + j)
def Stops (s t : ByteArray) (i n : Nat) : Prop := ¬ (n < s.size ∧ i + n < t.size ∧ byS s n = byS t (i + n))
structure IsLcp (s t : ByteArray) (i n : Nat) : Prop where
 goes : Goes s t i n
 stops : Stops s t i n
theorem IsLcp.eq {s t : ByteArray} {i n m : Nat} (h : IsLcp s t i n) (k : IsLcp s t i m) : n = m := by
 apply Classical.byContradiction
 intro hne
 rcases Nat.lt_or_gt_of_ne hne with hlt | hlt
 ·exact h.stops ⟨Nat.lt_of_lt_of_le hlt k.goes.1, by have := k.goes.2.1; omega, k.goes.2.2 n hlt⟩
 ·exact k.stops ⟨Nat.lt_of_lt_of_le hlt h.goes.1, by have := h.goes.2.1; omega, h.goes.2.2 m hlt⟩
def lcpGo (s t : ByteArray) (i : Nat) : Nat → Nat → Nat
 | 0, n => n
 | f + 1, n => if n < s.size ∧ i + n < t.size ∧ byS s n = byS t (i + n) then lcpGo s t i f (n + 1) else n
def lcpN (s t : ByteArray) (i : Nat) : Nat := lcpGo s t i (s.size + 1) 0
theorem Goes.succ {s t : ByteArray} {i n : Nat} (h : Goes s t i n) (h1 : n < s.size) (h2 : i + n < t.size) (h3 : byS s n = byS t (i + n)) : Goes s t i (n + 1) :=
 ⟨h1, by omega, fun j hj => by
  by_cases hjn : j = n
  ·subst hjn; exact h3
  ·exact h.2.2 j (by omega)⟩
theorem lcpGo_is (s t : ByteArray) (i : Nat) : ∀ f n, Goes s t i n → s.size < f + n → IsLcp s t i (lcpGo s t i f n)
 | 0, n, h, hf => by have := h.1; omega
 | f + 1, n, h, hf => by
  unfold lcpGo
  split
  ·rename_i hc
   exact lcpGo_is s t i f (n + 1) (h.succ hc.1 hc.2.1 hc.2.2) (by omega)
  ·rename_i hc
   exact ⟨h, hc⟩
theorem lcpN_is (s t : ByteArray) (i : Nat) (hi : i ≤ t.size) : IsLcp s t i (lcpN s t i) := lcpGo_is s t i _ 0 ⟨Nat.zero_le _, by omega, fun j hj => by omega⟩ (by omega)
theorem lcpN_le (s t : ByteArray) (i : Nat) (hi : i ≤ t.size) : lcpN s t i ≤ s.size := (lcpN_is s t i hi).goes.1
theorem lcpN_self (s : ByteArray) : lcpN s s 0 = s.size := (lcpN_is s s 0 (Nat.zero_le _)).eq ⟨⟨Nat.le_refl _, by omega, fun j _ => by rw [Nat.zero_add]⟩, fun h => by omega⟩
def Seen (s t : ByteArray) (a b : Nat) : Prop := a ≤ b ∧ Goes s t a (b - a)
theorem seen_goes {s t : ByteArray} {a b i : Nat} (h : Seen s t a b) (ha : a ≤ i) (hb : i < b) : Goes s t i (min (lcpN s s (i - a)) (b - i)) := by
 obtain ⟨h0, h1, h2, h3⟩ := h
 have hz := (lcpN_is s s (i - a) (by omega)).goes
 refine ⟨by have := hz.1; omega, by omega, fun j hj => ?_⟩
 rw [hz.2.2 j (by omega), h3 (i - a + j) (by omega)]
 congr 1; omega
theorem found_iff {s t : ByteArray} {i : Nat} (hi : i ≤ t.size) : lcpN s t i = s.size ↔ i + s.size ≤ t.size ∧ ∀ j, j < s.size → byS s j = byS t (i + j) := by
 have h := lcpN_is s t i hi
 constructor
 ·intro e; rw [e] at h; exact ⟨h.goes.2.1, h.goes.2.2⟩
 ·rintro ⟨h1, h2⟩
  exact h.eq ⟨⟨Nat.le_refl _, h1, h2⟩, fun h => by omega⟩
theorem zedSeen_own (F : Nat → Prop) (i a b : Nat) (Ao : Option Addr) (no co b0 : Nat) (vs : List Int) (w : World) (hOb : Blk w b0 #[.slice Ao no co] 37) (hFb : Blk w (b0 + 3) #[.int .i64 a] 3) (hTb : Blk w (b0 + 4) #[.int .i64 b] 3) (hv : IntsAt F w Ao no co vs)
  (hin : i < b → a ≤ i ∧ i - a < no) (hi9 : i ≤ 1000000000) (hb9 : b ≤ 1000000000) (hno : Ao.isNone = false) :
  Calls Tryz.prog 189 #[.int .i64 i, .pointer (some ⟨b0 + 4, 0, none⟩), .pointer (some ⟨b0, 0, none⟩), .pointer (some ⟨b0 + 3, 0, none⟩), .pointer (some ⟨b0 + 2, 0, none⟩)] w fun e w' => e = .returned (.int .i64 (if i < b then min (vs.getD (i - a) 0) ((b : Int) - i) else 0)) ∧ Chg Nothing w w' := by
 have t0 := hTb.cell 0 (v := .int .i64 b) rfl
 have o0 := hOb.cell 0 (v := .slice Ao no co) rfl
 have f0 := hFb.cell 0 (v := .int .i64 a) rfl
 have hnn : ∀ W, (binOp .neq 37 (.slice Ao no co) (.slice none 0 0)).run Tryz.prog W = .ok (.bool true) W := fun W => by rw [run_neq_slice_nil W _ 3 _ _ _ Tryz.underlying37, hno]; rfl
 clear hTb hOb hFb
 by_cases hib : i < b
 ·obtain ⟨ha, hlt⟩ := hin hib
  obtain ⟨g, o, rfl, -, hgl, v0⟩ := hv.at_ hlt
  rw [if_pos hib]
  have e1 : decide ((b : Int) ≤ (i : Int)) = false := decide_eq_false (by omega)
  have hw1 : IntKind.i64.wrap ((i : Int) - (a : Int)) = (i : Int) - (a : Int) := by rw [IntKind.wrap_i64]; omega
  have hw2 : IntKind.i64.wrap ((b : Int) - (i : Int)) = (b : Int) - (i : Int) := by rw [IntKind.wrap_i64]; omega
  have hx0 : (0 : Int) ≤ (i : Int) - (a : Int) := by omega
  have hx3 : (a : Int) ≤ (i : Int) := by omega
  have hx1 : (i : Int) - (a : Int) < (no : Int) := by omega
  have htn : ((i : Int) - (a : Int)).toNat = i - a := by omega
  obtain ⟨v, hvd⟩ : ∃ v, v = vs.getD (i - a) 0 := ⟨_, rfl⟩
  rw [← hvd] at v0 ⊢
  clear hv hin hno hvd
  go_enter Tryz.func189, Tryz.ntmps189
  go_wp2_with fail
  go_quiet (fail)
  go_wp2
  all_goals
   go_ret
   refine ⟨?_, (Chg.refl _ _).drewN _⟩
   first
   | (simp; done)
   | (simp; omega)
 ·have e1 : decide ((b : Int) ≤ (i : Int)) = true := decide_eq_true (by omega)
  rw [if_neg hib]
  clear hv hin hno
  go_enter Tryz.func189, Tryz.ntmps189
  go_wp2
  go_ret
  exact ⟨rfl, Chg.refl _ _⟩
theorem zedSeen_self (F : Nat → Prop) (i a b : Nat) (Au : Option Addr) (nu cu b0 : Nat) (vs : List Int) (w : World) (hOb : Blk w b0 #[.slice none 0 0] 37) (hUb : Blk w (b0 + 2) #[.slice Au nu cu] 37) (hFb : Blk w (b0 + 3) #[.int .i64 a] 3) (hTb : Blk w (b0 + 4) #[.int .i64 b] 3) (hv : IntsAt F w Au nu cu vs)
  (hin : i < b → a ≤ i ∧ i - a < nu) (hi9 : i ≤ 1000000000) (hb9 : b ≤ 1000000000) :
  Calls Tryz.prog 189 #[.int .i64 i, .pointer (some ⟨b0 + 4, 0, none⟩), .pointer (some ⟨b0, 0, none⟩), .pointer (some ⟨b0 + 3, 0, none⟩), .pointer (some ⟨b0 + 2, 0, none⟩)] w fun e w' => e = .returned (.int .i64 (if i < b then min (vs.getD (i - a) 0) ((b : Int) - i) else 0)) ∧ Chg Nothing w w' := by
 have t0 := hTb.cell 0 (v := .int .i64 b) rfl
 have o0 := hOb.cell 0 (v := .slice none 0 0) rfl
 have u0 := hUb.cell 0 (v := .slice Au nu cu) rfl
 have f0 := hFb.cell 0 (v := .int .i64 a) rfl
 have hnn : ∀ W, (binOp .neq 37 (.slice none 0 0) (.slice none 0 0)).run Tryz.prog W = .ok (.bool false) W := fun W => by rw [run_neq_slice_nil W _ 3 _ _ _ Tryz.underlying37]; rfl
 clear hTb hOb hFb hUb
 by_cases hib : i < b
 ·obtain ⟨ha, hlt⟩ := hin hib
  obtain ⟨g, o, rfl, -, hgl, v0⟩ := hv.at_ hlt
  rw [if_pos hib]
  have e1 : decide ((b : Int) ≤ (i : Int)) = false := decide_eq_false (by omega)
  have hw1 : IntKind.i64.wrap ((i : Int) - (a : Int)) = (i : Int) - (a : Int) := by rw [IntKind.wrap_i64]; omega
  have hw2 : IntKind.i64.wrap ((b : Int) - (i : Int)) = (b : Int) - (i : Int) := by rw [IntKind.wrap_i64]; omega
  have hx0 : (0 : Int) ≤ (i : Int) - (a : Int) := by omega
  have hx3 : (a : Int) ≤ (i : Int) := by omega
  have hx1 : (i : Int) - (a : Int) < (nu : Int) := by omega
  have htn : ((i : Int) - (a : Int)).toNat = i - a := by omega
  obtain ⟨v, hvd⟩ : ∃ v, v = vs.getD (i - a) 0 := ⟨_, rfl⟩
  rw [← hvd] at v0 ⊢
  clear hv hin hvd
  go_enter Tryz.func189, Tryz.ntmps189
  go_wp2_with fail
  go_quiet (fail)
  go_wp2
  all_goals
   go_ret
   refine ⟨?_, (Chg.refl _ _).drewN _⟩
   first
   | (simp; done)
   | (simp; omega)
 ·have e1 : decide ((b : Int) ≤ (i : Int)) = true := decide_eq_true (by omega)
  rw [if_neg hib]
  clear hv hin
  go_enter Tryz.func189, Tryz.ntmps189
  go_wp2
  go_ret
  exact ⟨rfl, Chg.refl _ _⟩
theorem make_intCap (n : Nat) (hn : n ≤ 1000000000) (w : World) : (Instr.makeSlice 37 (.int .i64 0) (.int .i64 (n : Int))).run Tryz.prog w = .ok (.slice (some ⟨w.heap.size, 0, none⟩) 0 n) (w.alloc (.cells (madeCells #[.int .i64 0] n) 3)) := by
 obtain ⟨i, hi, hzz⟩ := Option.map_eq_some_iff.1 infoInt
 simp only [Prod.mk.injEq] at hzz
 obtain ⟨hz, hs, hb⟩ := hzz
 have hr := run_make (P := Tryz.prog) w 37 3 i (.int .i64 0) Tryz.underlying37 hi hz .i64 .i64 0 n (Int.le_refl _) (by omega) (by rw [hb]; omega) (by omega)
 simp only [Int.toNat_zero, Int.toNat_natCast, hs, Nat.mul_one] at hr
 exact hr
def lcpI (s t : ByteArray) (k : Nat) : List Int := (List.range k).map fun i => ((lcpN s t i : Nat) : Int)
theorem lcpI_succ (s t : ByteArray) (k : Nat) : lcpI s t (k + 1) = lcpI s t k ++ [((lcpN s t k : Nat) : Int)] := by unfold lcpI; rw [List.range_succ, List.map_append]; rfl
theorem lcpI_len (s t : ByteArray) (k : Nat) : (lcpI s t k).length = k := by unfold lcpI; simp
theorem lcpI_getD (s t : ByteArray) (k i : Nat) (h : i < k) : (lcpI s t k).getD i 0 = ((lcpN s t i : Nat) : Int) := by unfold lcpI; simp [h]
theorem byS_at (s : ByteArray) (i : Nat) (h : i < s.size) : byS s i = (s[i]'h).toNat := by
 unfold byS
 rw [show s.data[i]? = some (s[i]'h) from Array.getElem?_eq_getElem h]
 rfl
def seenN (s : ByteArray) (a b i : Nat) : Nat := if i < b then min (lcpN s s (i - a)) (b - i) else 0
theorem seenN_goes {s t : ByteArray} {a b i : Nat} (h : Seen s t a b) (ha : a ≤ i) (hi : i ≤ t.size) : Goes s t i (seenN s a b i) := by
 unfold seenN
 split
 ·rename_i hb; exact seen_goes h ha hb
 ·exact ⟨Nat.zero_le _, by omega, fun j hj => by omega⟩
structure ZBoxes (w : World) (b0 : Nat) (Ao : Option Addr) (no co : Nat) (A : Option Addr) (n c : Nat) (a b : Nat) (xs : List Int) : Prop where
 own : Blk w b0 #[.slice Ao no co] 37
 out : Blk w (b0 + 2) #[.slice A n c] 37
 from_ : Blk w (b0 + 3) #[.int .i64 a] 3
 to : Blk w (b0 + 4) #[.int .i64 b] 3
 row : IRow w (b0 + 1) A n c xs
 apart : ∀ j, Of A j → j = b0 + 1 ∨ b0 + 5 ≤ j
theorem ZBoxes.calm {w w' : World} {b0 : Nat} {Ao : Option Addr} {no co : Nat} {A : Option Addr} {n c a b : Nat} {xs : List Int} (h : ZBoxes w b0 Ao no co A n c a b xs) (hc : Chg Nothing w w') : ZBoxes w' b0 Ao no co A n c a b xs :=
 ⟨h.own.chg hc id, h.out.chg hc id, h.from_.chg hc id, h.to.chg hc id, own_chg h.row hc (fun _ _ h => h), h.apart⟩
theorem ZBoxes.seen {w : World} {b0 : Nat} {Ao : Option Addr} {no co : Nat} {A : Option Addr} {n c a b : Nat} {xs : List Int} (h : ZBoxes w b0 Ao no co A n c a b xs) (a' b' : Nat) :
  ∀ V, V = (w.setCell ⟨b0 + 3, 0, none⟩ (.int .i64 a')).setCell ⟨b0 + 4, 0, none⟩ (.int .i64 b') → ZBoxes V b0 Ao no co A n c a' b' xs ∧ Chg (fun j => j = b0 + 3 ∨ j = b0 + 4) w V := by
 rintro V rfl
 have hs1 : Chg (One (b0 + 3)) w (w.setCell ⟨b0 + 3, 0, none⟩ (.int .i64 a')) := (Chg.refl _ _).setOne 0 _
 have hs2 : Chg (One (b0 + 4)) (w.setCell ⟨b0 + 3, 0, none⟩ (.int .i64 a')) ((w.setCell ⟨b0 + 3, 0, none⟩ (.int .i64 a')).setCell ⟨b0 + 4, 0, none⟩ (.int .i64 b')) := (Chg.refl _ _).setOne 0 _
 have hall : Chg (fun j => j = b0 + 3 ∨ j = b0 + 4) w ((w.setCell ⟨b0 + 3, 0, none⟩ (.int .i64 a')).setCell ⟨b0 + 4, 0, none⟩ (.int .i64 b')) := (hs1.mono (fun _ _ e => .inl e)).trans (hs2.mono (fun _ _ e => .inr e))
 refine ⟨⟨h.own.chg hall (by omega), h.out.chg hall (by omega), ?_, ?_, own_chg h.row hall (fun j hj e => by have := h.apart j hj; omega), h.apart⟩, hall⟩
 ·exact (h.from_.set 0 _).chg hs2 (fun e => absurd (show b0 + 3 = b0 + 4 from e) (by omega))
 ·exact (h.to.chg hs1 (fun e => absurd (show b0 + 4 = b0 + 3 from e) (by omega))).set 0 _
theorem ZBoxes.more {w W3 : World} {b0 : Nat} {Ao : Option Addr} {no co : Nat} {A A' : Option Addr} {n c c' a b : Nat} {xs : List Int} {v : Int} (h : ZBoxes w b0 Ao no co A n c a b xs) (hb : b0 + 5 ≤ w.heap.size) (hc3 : Chg (Of A) w W3) (hof : ∀ j, Of A' j → Of A j ∨ w.heap.size ≤ j)
  (hown : W3.ownsRow (b0 + 1) 3 1 (.slice A' (n + 1) c') (n + 1) (xs.map (Value.int .i64) ++ [.int .i64 v])) :
  ∀ V, V = W3.setCell ⟨b0 + 2, 0, none⟩ (.slice A' (n + 1) c') → ZBoxes V b0 Ao no co A' (n + 1) c' a b (xs ++ [v]) ∧ Chg (fun j => j = b0 + 2 ∨ Of A j) w V := by
 rintro V rfl
 have ha : ∀ j, Of A' j → j = b0 + 1 ∨ b0 + 5 ≤ j := fun j hj => by
  rcases hof j hj with h1 | h1
  ·exact h.apart j h1
  ·omega
 have hs : Chg (One (b0 + 2)) W3 (W3.setCell ⟨b0 + 2, 0, none⟩ (.slice A' (n + 1) c')) := (Chg.refl _ _).setOne 0 _
 have hall : Chg (fun j => j = b0 + 2 ∨ Of A j) w (W3.setCell ⟨b0 + 2, 0, none⟩ (.slice A' (n + 1) c')) := (hc3.mono (fun _ _ e => .inr e)).trans (hs.mono (fun _ _ e => .inl e))
 refine ⟨⟨h.own.chg hall (fun e => ?_), ((h.out.chg hc3 (fun e => ?_))).set 0 _, h.from_.chg hall (fun e => ?_), h.to.chg hall (fun e => ?_), ?_, ha⟩, hall⟩
 ·rcases e with e | e
  ·omega
  ·have := h.apart _ e; omega
 ·have := h.apart _ e; omega
 ·rcases e with e | e
  ·omega
  ·have := h.apart _ e; omega
 ·rcases e with e | e
  ·omega
  ·have := h.apart _ e; omega
 ·unfold IRow
  rw [List.map_append]
  exact own_chg hown hs (fun j hj e => by have h1 := ha j hj; have h2 : j = b0 + 2 := e; omega)
def ZInv (w : World) (s t : ByteArray) (SELF : Bool) (b0 : Nat) (Ao : Option Addr) (no co : Nat) (iv : Value) (wr : World) : Prop := ∃ (i a b : Nat) (A : Option Addr) (c : Nat), i ≤ t.size ∧ iv = .int .i64 i ∧ ZBoxes wr b0 Ao no co A i c a b (lcpI s t i) ∧ Seen s t a b ∧ a ≤ i ∧ b ≤ t.size ∧ (SELF = true → b = 0 ∨ 1 ≤ a) ∧ Chg Nothing w wr
def ZInn (wr : World) (s t : ByteArray) (i : Nat) (nv : Value) (wj : World) : Prop := ∃ n q : Nat, nv = .int .i64 n ∧ Goes s t i n ∧ wj = wr.drewN q
theorem zedRows_any (F : Nat → Prop) (s t : ByteArray) (Ao : Option Addr) (no co : Nat) (w : World) (HO : IntsAt F w Ao no co (lcpI s s s.size)) (hne : 0 < s.size) (hs : s.size ≤ 100000000) (ht : t.size ≤ 100000000) :
  Calls Tryz.prog 161 #[.string s, .string t, .slice Ao no co] w fun e w' => (∃ A c, e = .returned (.slice A t.size c) ∧ IRow w' w.heap.size A t.size c (lcpI s t t.size)) ∧ Chg Nothing w w' := by
 obtain ⟨ad, rfl⟩ : ∃ ad, Ao = some ad := by
  have hl := HO.2.2.2.1
  rw [lcpI_len] at hl
  obtain ⟨g, o, e, -⟩ := HO.2.2.2.2 (by omega)
  exact ⟨_, e⟩
 have hnl := hid (show s.size = no from by have hl := HO.2.2.2.1; rwa [lcpI_len] at hl)
 have hHO := hid (fun (w' : World) (hc : Chg Nothing w w') => HO.chg hc (fun _ _ _ h => h))
 have hmk := make_intCap t.size (by omega)
 have h0 : ZBoxes (((((w.alloc (.cells #[.slice (some ad) no co] 37)).alloc (.cells (madeCells #[.int .i64 0] t.size) 3)).alloc (.cells #[.slice (some ⟨w.heap.size + 1, 0, none⟩) 0 t.size] 37)).alloc (.cells #[.int .i64 0] 3)).alloc (.cells #[.int .i64 0] 3)) w.heap.size (some ad) no co (some ⟨w.heap.size + 1, 0, none⟩) 0 t.size 0 0 [] := by
  have h1 := ((((Blk.new w #[.slice (some ad) no co] 37).alloc (.cells (madeCells #[.int .i64 0] t.size) 3)).alloc (.cells #[.slice (some ⟨w.heap.size + 1, 0, none⟩) 0 t.size] 37)).alloc (.cells #[.int .i64 0] 3)).alloc (.cells #[.int .i64 0] 3)
  have h2 := ((Blk.new ((w.alloc (.cells #[.slice (some ad) no co] 37)).alloc (.cells (madeCells #[.int .i64 0] t.size) 3)) #[.slice (some ⟨w.heap.size + 1, 0, none⟩) 0 t.size] 37).alloc (.cells #[.int .i64 0] 3)).alloc (.cells #[.int .i64 0] 3)
  have h3 := (Blk.new (((w.alloc (.cells #[.slice (some ad) no co] 37)).alloc (.cells (madeCells #[.int .i64 0] t.size) 3)).alloc (.cells #[.slice (some ⟨w.heap.size + 1, 0, none⟩) 0 t.size] 37)) #[.int .i64 0] 3).alloc (.cells #[.int .i64 0] 3)
  have h4 := Blk.new ((((w.alloc (.cells #[.slice (some ad) no co] 37)).alloc (.cells (madeCells #[.int .i64 0] t.size) 3)).alloc (.cells #[.slice (some ⟨w.heap.size + 1, 0, none⟩) 0 t.size] 37)).alloc (.cells #[.int .i64 0] 3)) #[.int .i64 0] 3
  have h5 := World.ownsRow_made (w.alloc (.cells #[.slice (some ad) no co] 37)) (base := w.heap.size + 1) (e := 3) (size := 1) (madeCells #[.int .i64 0] t.size) t.size (by rw [World.size_alloc]; exact Nat.le_refl _) (by unfold maxLen; omega) (by rw [size_madeCells]; omega)
  simp only [World.size_alloc] at h2 h3 h4 h5
  refine ⟨h1, h2, h3, h4, own_chg h5 ((((Chg.refl Nothing _).alloc _).alloc _).alloc _) (fun _ _ h => h), fun j ⟨a, e, hj⟩ => ?_⟩
  injection e with e
  subst e
  exact .inl hj
 have hC0 := hid ((((((Chg.refl Nothing w).alloc (.cells #[.slice (some ad) no co] 37)).alloc (.cells (madeCells #[.int .i64 0] t.size) 3)).alloc (.cells #[.slice (some ⟨w.heap.size + 1, 0, none⟩) 0 t.size] 37)).alloc (.cells #[.int .i64 0] 3)).alloc (.cells #[.int .i64 0] 3))
 have h0h := hid h0
 clear h0 HO
 go_enter Tryz.func161, Tryz.ntmps161
 go_wp2_with fail
 obtain ⟨b0, hb0⟩ : ∃ b0, b0 = w.heap.size := ⟨_, rfl⟩
 try simp only [Nat.add_assoc, Nat.reduceAdd]
 rw [← hb0] at h0h hC0 ⊢
 replace hb0 := hid hb0
 go_loopw [19] (fun iv wr => ZInv w s t false b0 (some ad) no co iv wr) (fun iv _ => t.size - (intOf iv).toNat)
 case atStart => exact ⟨0, 0, 0, _, _, Nat.zero_le _, rfl, h0h.out, ⟨Nat.le_refl _, Nat.zero_le _, by omega, fun j hj => by omega⟩, Nat.le_refl _, Nat.zero_le _, fun _ => .inl rfl, hC0.out⟩
 case round =>
  clear h0h hC0 hmk
  obtain ⟨i, a, b, A1, c1, hi, rfl, hZ, hse, hai, hbt, hsf, hchg⟩ := hrel
  rcases Nat.lt_or_ge i t.size with hin | hin
  ·have hi0 : (0 : Int) ≤ (i : Int) := by omega
   have hiI : (i : Int) < (t.size : Int) := by omega
   have hZh := hid hZ
   have hCr := hid hchg
   have hb5 := hid (show b0 + 5 ≤ wr.heap.size from hZ.to.lt)
   have hgo := hid (seenN_goes (i := i) hse hai (by omega))
   have hseh := hid hse
   have hS1 := hid (zedSeen_own _ i a b (some ad) no co b0 _ wr hZ.own hZ.from_ hZ.to (hHO.out _ hchg) (fun h => ⟨hai, by have := hse.2.1; have := hnl.out; omega⟩) (by omega) (by omega) rfl)
   have hsv := hid (show (if i < b then min ((lcpI s s s.size).getD (i - a) 0) ((b : Int) - i) else 0) = ((seenN s a b i : Nat) : Int) from by
    unfold seenN
    by_cases hb : i < b
    ·rw [if_pos hb, if_pos hb, lcpI_getD _ _ _ _ (by have := hse.2.1; omega)]
     try omega
    ·rw [if_neg hb, if_neg hb]; rfl)
   rw [hsv.out] at hS1
   clear hZ hse hchg
   obtain ⟨n0, hn0⟩ : ∃ n0, n0 = seenN s a b i := ⟨_, rfl⟩
   rw [← hn0] at hS1 hgo
   have hn0h := hid hn0
   clear hn0 hsv
   go_wp2_with fail
   refine hS1.out.mono ?_
   rintro e w2 ⟨rfl, hc2⟩
   have hC2 := hid (hCr.out.trans hc2)
   have hZ2 := hid (hZh.out.calm hc2)
   have hb52 := hid (Nat.le_trans hb5.out hc2.size)
   clear hc2 hZh hb5 hS1 hCr
   have hnn : ∀ W, (binOp .neq 37 (.slice (some ad) no co) (.slice none 0 0)).run Tryz.prog W = .ok (.bool true) W := fun W => by rw [run_neq_slice_nil W _ 3 _ _ _ Tryz.underlying37]; rfl
   have hnq : ∀ W, (binOp .eql 37 (.slice (some ad) no co) (.slice none 0 0)).run Tryz.prog W = .ok (.bool false) W := fun W => by rw [run_eql_slice_nil W _ 3 _ _ _ Tryz.underlying37]; rfl
   have hw2 := hid (Chg.refl Nothing w2)
   go_wp2_with fail
   go_loopw [12] (fun nv wj => ZInn w2 s t i nv wj) (fun nv _ => s.size - (intOf nv).toNat)
   case atStart => exact ⟨n0, 0, rfl, hgo.out, rfl⟩
   case round =>
    obtain ⟨n, q, rfl, hG, rfl⟩ := hrel
    have hGh := hid hG
    obtain ⟨hn1, hn2, -⟩ := hG
    have o0 := hZ2.out.own.cell 0 (v := .slice (some ad) no co) rfl
    have hn0' : (0 : Int) ≤ (n : Int) := by omega
    have hwi : IntKind.i64.wrap ((i : Int) + (n : Int)) = (i : Int) + (n : Int) := by rw [IntKind.wrap_i64]; omega
    have hwn : IntKind.i64.wrap ((n : Int) + 1) = (n : Int) + 1 := by rw [IntKind.wrap_i64]; omega
    by_cases h1 : n < s.size
    ·have g1 : decide ((n : Int) < (s.size : Int)) = true := decide_eq_true (by omega)
     by_cases h2 : i + n < t.size
     ·have g2 : decide ((i : Int) + (n : Int) < (t.size : Int)) = true := decide_eq_true (by omega)
      have hin0 : (0 : Int) ≤ (i : Int) + (n : Int) := by omega
      have htn : ((i : Int) + (n : Int)).toNat = i + n := by omega
      have hx1 : ∀ W, (Instr.index 9 (.string s) (.int .i64 (n : Int))).run Tryz.prog W = .ok (.int .u8 ((byS s n : Nat) : Int)) W := fun W => by
       rw [run_index_string (h := Tryz.underlying9), dif_pos ⟨by omega, by omega⟩, byS_at _ _ h1]
       simp only [Int.toNat_natCast]
      have hx2 : ∀ W, (Instr.index 9 (.string t) (.int .i64 ((i : Int) + (n : Int)))).run Tryz.prog W = .ok (.int .u8 ((byS t (i + n) : Nat) : Int)) W := fun W => by
       rw [run_index_string (h := Tryz.underlying9), dif_pos ⟨by omega, by omega⟩, byS_at _ _ h2]
       simp only [htn]
      by_cases h3 : byS s n = byS t (i + n)
      ·have g3 : ((((byS s n : Nat) : Int)) == ((byS t (i + n) : Nat) : Int)) = true := beq_iff_eq.2 (by omega)
       have hG2 := hid (hGh.out.succ h1 h2 h3)
       generalize ((byS s n : Nat) : Int) = y1 at hx1 g3
       generalize ((byS t (i + n) : Nat) : Int) = y2 at hx2 g3
       replace h3 := hid h3
       clear htn
       go_wp2_with fail
       go_quiet (fail)
       go_wp2
       go_roundw
       case rel => exact ⟨n + 1, q + nq, by go_num, hG2.out, by rw [← World.drewN_drewN]⟩
       case measure => simp [intOf]; omega
      ·have g3 : ((((byS s n : Nat) : Int)) == ((byS t (i + n) : Nat) : Int)) = false := beq_eq_false_iff_ne.2 (by omega)
       have hL := hid (show lcpN s t i = n from (lcpN_is s t i (by omega)).eq ⟨hGh.out, fun h => h3 h.2.2⟩)
       generalize ((byS s n : Nat) : Int) = y1 at hx1 g3
       generalize ((byS t (i + n) : Nat) : Int) = y2 at hx2 g3
       replace h3 := hid h3
       clear htn
       go_wp2_with fail
       go_quiet (fail)
       have hZ3 := hid (show ZBoxes ((w2.drewN q).drewN nq) b0 (some ad) no co A1 i c1 a b (lcpI s t i) from (hZ2.out.calm ((Chg.refl Nothing w2).drewN q)).calm ((Chg.refl Nothing _).drewN nq))
       have hC3 := hid ((hC2.out.drewN q).drewN nq)
       generalize (w2.drewN q).drewN nq = w3 at hZ3 hC3 ⊢
       have q0 := hZ3.out.own.cell 0 (v := .slice (some ad) no co) rfl
       have q4 := hZ3.out.to.cell 0 (v := .int .i64 b) rfl
       by_cases hg : b < i + n
       ·have g7 : decide ((b : Int) < (i : Int) + (n : Int)) = true := decide_eq_true (by omega)
        have q5 := hZ3.out.to.free 0
        have q6 := hZ3.out.from_.free 0
        have q7 := hZ3.out.to.lt
        have q8 := hZ3.out.from_.lt
        have q9 := hZ3.out.from_.cell 0 (v := .int .i64 a) rfl
        have hZ4 := hid (hZ3.out.seen i (i + n) _ rfl).1
        have hC4 := hid (Chg.then hC3.out (hZ3.out.seen i (i + n) _ rfl).2 (fun j hj e => by have hb := hb0.out; omega))
        have hcast : (((i + n : Nat)) : Int) = (i : Int) + (n : Int) := by omega
        rw [hcast] at hZ4 hC4
        clear hcast
        have hsV := hid (show ((w3.setCell ⟨b0 + 3, 0, none⟩ (.int .i64 (i : Int))).setCell ⟨b0 + 4, 0, none⟩ (.int .i64 ((i : Int) + (n : Int)))).heap.size = w3.heap.size from by simp)
        have z0 := hZ4.out.out.cell 0 (v := .slice A1 i c1) rfl
        have hb54 := hid (show b0 + 5 ≤ _ from hZ4.out.to.lt)
        go_wp2_with (at_builtin; refine append_one rfl _ _ 37 rfl (b0 + 1) 3 (.int .i64 0) 8 Tryz.underlying37 infoInt rfl A1 c1 i _ rfl hZ4.out.row (.int .i64 (n : Nat)) (by rw [hsV.out]; rfl) rfl ?_ ?_ ?_ ?_)
        ·omega
        ·omega
        ·have := hb54.out; omega
        intro A' c' w6 hown6 hc6 hA6
        have hB6 := hZ4.out.out.chg hc6 (fun h => by have := hZ4.out.apart _ h; omega)
        have z1 := hB6.cell 0 (v := .slice A1 i c1) rfl
        have z2 := hB6.free 0
        have z3 := hB6.lt
        have hZ5 := hid (hZ4.out.more (v := (n : Nat)) hb54.out hc6 (fun j hj => by simpa using hA6 j hj) hown6 _ rfl)
        clear hB6 hown6 hc6 hA6 z0
        go_wp2
        go_roundw
        case rel => exact ⟨i + 1, i, (i + n), A', c', hin, by go_num, by rw [lcpI_succ, hL.out]; exact hZ5.out.1, ⟨by omega, by rw [Nat.add_sub_cancel_left]; exact hGh.out⟩, by omega, by have := hGh.out.2.1; omega, (fun h => by cases h), Chg.then hC4.out hZ5.out.2 (fun j hj e => by have hb := hb0.out; rcases e with e | e; omega; have := hZ4.out.apart _ e; omega)⟩
        case measure => simp [intOf]; omega
       ·have g7 : decide ((b : Int) < (i : Int) + (n : Int)) = false := decide_eq_false (by omega)
        have z0 := hZ3.out.out.cell 0 (v := .slice A1 i c1) rfl
        have hb54 := hid (show b0 + 5 ≤ _ from hZ3.out.to.lt)
        go_wp2_with (at_builtin; refine append_one rfl _ _ 37 rfl (b0 + 1) 3 (.int .i64 0) 8 Tryz.underlying37 infoInt rfl A1 c1 i _ rfl hZ3.out.row (.int .i64 (n : Nat)) rfl rfl ?_ ?_ ?_ ?_)
        ·omega
        ·omega
        ·have := hb54.out; omega
        intro A' c' w6 hown6 hc6 hA6
        have hB6 := hZ3.out.out.chg hc6 (fun h => by have := hZ3.out.apart _ h; omega)
        have z1 := hB6.cell 0 (v := .slice A1 i c1) rfl
        have z2 := hB6.free 0
        have z3 := hB6.lt
        have hZ5 := hid (hZ3.out.more (v := (n : Nat)) hb54.out hc6 (fun j hj => by simpa using hA6 j hj) hown6 _ rfl)
        clear hB6 hown6 hc6 hA6 z0
        go_wp2
        go_roundw
        case rel => exact ⟨i + 1, a, b, A', c', hin, by go_num, by rw [lcpI_succ, hL.out]; exact hZ5.out.1, hseh.out, by omega, hbt, (fun h => by cases h), Chg.then hC3.out hZ5.out.2 (fun j hj e => by have hb := hb0.out; rcases e with e | e; omega; have := hZ3.out.apart _ e; omega)⟩
        case measure => simp [intOf]; omega
     ·have g2 : decide ((i : Int) + (n : Int) < (t.size : Int)) = false := decide_eq_false (by omega)
      have hL := hid (show lcpN s t i = n from (lcpN_is s t i (by omega)).eq ⟨hGh.out, fun h => h2 h.2.1⟩)
      go_wp2_with fail
      go_quiet (fail)
      have hZ3 := hid (show ZBoxes ((w2.drewN q).drewN nq) b0 (some ad) no co A1 i c1 a b (lcpI s t i) from (hZ2.out.calm ((Chg.refl Nothing w2).drewN q)).calm ((Chg.refl Nothing _).drewN nq))
      have hC3 := hid ((hC2.out.drewN q).drewN nq)
      generalize (w2.drewN q).drewN nq = w3 at hZ3 hC3 ⊢
      have q0 := hZ3.out.own.cell 0 (v := .slice (some ad) no co) rfl
      have q4 := hZ3.out.to.cell 0 (v := .int .i64 b) rfl
      by_cases hg : b < i + n
      ·have g7 : decide ((b : Int) < (i : Int) + (n : Int)) = true := decide_eq_true (by omega)
       have q5 := hZ3.out.to.free 0
       have q6 := hZ3.out.from_.free 0
       have q7 := hZ3.out.to.lt
       have q8 := hZ3.out.from_.lt
       have q9 := hZ3.out.from_.cell 0 (v := .int .i64 a) rfl
       have hZ4 := hid (hZ3.out.seen i (i + n) _ rfl).1
       have hC4 := hid (Chg.then hC3.out (hZ3.out.seen i (i + n) _ rfl).2 (fun j hj e => by have hb := hb0.out; omega))
       have hcast : (((i + n : Nat)) : Int) = (i : Int) + (n : Int) := by omega
       rw [hcast] at hZ4 hC4
       clear hcast
       have hsV := hid (show ((w3.setCell ⟨b0 + 3, 0, none⟩ (.int .i64 (i : Int))).setCell ⟨b0 + 4, 0, none⟩ (.int .i64 ((i : Int) + (n : Int)))).heap.size = w3.heap.size from by simp)
       have z0 := hZ4.out.out.cell 0 (v := .slice A1 i c1) rfl
       have hb54 := hid (show b0 + 5 ≤ _ from hZ4.out.to.lt)
       go_wp2_with (at_builtin; refine append_one rfl _ _ 37 rfl (b0 + 1) 3 (.int .i64 0) 8 Tryz.underlying37 infoInt rfl A1 c1 i _ rfl hZ4.out.row (.int .i64 (n : Nat)) (by rw [hsV.out]; rfl) rfl ?_ ?_ ?_ ?_)
       ·omega
       ·omega
       ·have := hb54.out; omega
       intro A' c' w6 hown6 hc6 hA6
       have hB6 := hZ4.out.out.chg hc6 (fun h => by have := hZ4.out.apart _ h; omega)
       have z1 := hB6.cell 0 (v := .slice A1 i c1) rfl
       have z2 := hB6.free 0
       have z3 := hB6.lt
       have hZ5 := hid (hZ4.out.more (v := (n : Nat)) hb54.out hc6 (fun j hj => by simpa using hA6 j hj) hown6 _ rfl)
       clear hB6 hown6 hc6 hA6 z0
       go_wp2
       go_roundw
       case rel => exact ⟨i + 1, i, (i + n), A', c', hin, by go_num, by rw [lcpI_succ, hL.out]; exact hZ5.out.1, ⟨by omega, by rw [Nat.add_sub_cancel_left]; exact hGh.out⟩, by omega, by have := hGh.out.2.1; omega, (fun h => by cases h), Chg.then hC4.out hZ5.out.2 (fun j hj e => by have hb := hb0.out; rcases e with e | e; omega; have := hZ4.out.apart _ e; omega)⟩
       case measure => simp [intOf]; omega
      ·have g7 : decide ((b : Int) < (i : Int) + (n : Int)) = false := decide_eq_false (by omega)
       have z0 := hZ3.out.out.cell 0 (v := .slice A1 i c1) rfl
       have hb54 := hid (show b0 + 5 ≤ _ from hZ3.out.to.lt)
       go_wp2_with (at_builtin; refine append_one rfl _ _ 37 rfl (b0 + 1) 3 (.int .i64 0) 8 Tryz.underlying37 infoInt rfl A1 c1 i _ rfl hZ3.out.row (.int .i64 (n : Nat)) rfl rfl ?_ ?_ ?_ ?_)
       ·omega
       ·omega
       ·have := hb54.out; omega
       intro A' c' w6 hown6 hc6 hA6
       have hB6 := hZ3.out.out.chg hc6 (fun h => by have := hZ3.out.apart _ h; omega)
       have z1 := hB6.cell 0 (v := .slice A1 i c1) rfl
       have z2 := hB6.free 0
       have z3 := hB6.lt
       have hZ5 := hid (hZ3.out.more (v := (n : Nat)) hb54.out hc6 (fun j hj => by simpa using hA6 j hj) hown6 _ rfl)
       clear hB6 hown6 hc6 hA6 z0
       go_wp2
       go_roundw
       case rel => exact ⟨i + 1, a, b, A', c', hin, by go_num, by rw [lcpI_succ, hL.out]; exact hZ5.out.1, hseh.out, by omega, hbt, (fun h => by cases h), Chg.then hC3.out hZ5.out.2 (fun j hj e => by have hb := hb0.out; rcases e with e | e; omega; have := hZ3.out.apart _ e; omega)⟩
       case measure => simp [intOf]; omega
    ·have g1 : decide ((n : Int) < (s.size : Int)) = false := decide_eq_false (by omega)
     have hL := hid (show lcpN s t i = n from (lcpN_is s t i (by omega)).eq ⟨hGh.out, fun h => h1 h.1⟩)
     go_wp2_with fail
     go_quiet (fail)
     have hZ3 := hid (show ZBoxes ((w2.drewN q).drewN nq) b0 (some ad) no co A1 i c1 a b (lcpI s t i) from (hZ2.out.calm ((Chg.refl Nothing w2).drewN q)).calm ((Chg.refl Nothing _).drewN nq))
     have hC3 := hid ((hC2.out.drewN q).drewN nq)
     generalize (w2.drewN q).drewN nq = w3 at hZ3 hC3 ⊢
     have q0 := hZ3.out.own.cell 0 (v := .slice (some ad) no co) rfl
     have q4 := hZ3.out.to.cell 0 (v := .int .i64 b) rfl
     by_cases hg : b < i + n
     ·have g7 : decide ((b : Int) < (i : Int) + (n : Int)) = true := decide_eq_true (by omega)
      have q5 := hZ3.out.to.free 0
      have q6 := hZ3.out.from_.free 0
      have q7 := hZ3.out.to.lt
      have q8 := hZ3.out.from_.lt
      have q9 := hZ3.out.from_.cell 0 (v := .int .i64 a) rfl
      have hZ4 := hid (hZ3.out.seen i (i + n) _ rfl).1
      have hC4 := hid (Chg.then hC3.out (hZ3.out.seen i (i + n) _ rfl).2 (fun j hj e => by have hb := hb0.out; omega))
      have hcast : (((i + n : Nat)) : Int) = (i : Int) + (n : Int) := by omega
      rw [hcast] at hZ4 hC4
      clear hcast
      have hsV := hid (show ((w3.setCell ⟨b0 + 3, 0, none⟩ (.int .i64 (i : Int))).setCell ⟨b0 + 4, 0, none⟩ (.int .i64 ((i : Int) + (n : Int)))).heap.size = w3.heap.size from by simp)
      have z0 := hZ4.out.out.cell 0 (v := .slice A1 i c1) rfl
      have hb54 := hid (show b0 + 5 ≤ _ from hZ4.out.to.lt)
      go_wp2_with (at_builtin; refine append_one rfl _ _ 37 rfl (b0 + 1) 3 (.int .i64 0) 8 Tryz.underlying37 infoInt rfl A1 c1 i _ rfl hZ4.out.row (.int .i64 (n : Nat)) (by rw [hsV.out]; rfl) rfl ?_ ?_ ?_ ?_)
      ·omega
      ·omega
      ·have := hb54.out; omega
      intro A' c' w6 hown6 hc6 hA6
      have hB6 := hZ4.out.out.chg hc6 (fun h => by have := hZ4.out.apart _ h; omega)
      have z1 := hB6.cell 0 (v := .slice A1 i c1) rfl
      have z2 := hB6.free 0
      have z3 := hB6.lt
      have hZ5 := hid (hZ4.out.more (v := (n : Nat)) hb54.out hc6 (fun j hj => by simpa using hA6 j hj) hown6 _ rfl)
      clear hB6 hown6 hc6 hA6 z0
      go_wp2
      go_roundw
      case rel => exact ⟨i + 1, i, (i + n), A', c', hin, by go_num, by rw [lcpI_succ, hL.out]; exact hZ5.out.1, ⟨by omega, by rw [Nat.add_sub_cancel_left]; exact hGh.out⟩, by omega, by have := hGh.out.2.1; omega, (fun h => by cases h), Chg.then hC4.out hZ5.out.2 (fun j hj e => by have hb := hb0.out; rcases e with e | e; omega; have := hZ4.out.apart _ e; omega)⟩
      case measure => simp [intOf]; omega
     ·have g7 : decide ((b : Int) < (i : Int) + (n : Int)) = false := decide_eq_false (by omega)
      have z0 := hZ3.out.out.cell 0 (v := .slice A1 i c1) rfl
      have hb54 := hid (show b0 + 5 ≤ _ from hZ3.out.to.lt)
      go_wp2_with (at_builtin; refine append_one rfl _ _ 37 rfl (b0 + 1) 3 (.int .i64 0) 8 Tryz.underlying37 infoInt rfl A1 c1 i _ rfl hZ3.out.row (.int .i64 (n : Nat)) rfl rfl ?_ ?_ ?_ ?_)
      ·omega
      ·omega
      ·have := hb54.out; omega
      intro A' c' w6 hown6 hc6 hA6
      have hB6 := hZ3.out.out.chg hc6 (fun h => by have := hZ3.out.apart _ h; omega)
      have z1 := hB6.cell 0 (v := .slice A1 i c1) rfl
      have z2 := hB6.free 0
      have z3 := hB6.lt
      have hZ5 := hid (hZ3.out.more (v := (n : Nat)) hb54.out hc6 (fun j hj => by simpa using hA6 j hj) hown6 _ rfl)
      clear hB6 hown6 hc6 hA6 z0
      go_wp2
      go_roundw
      case rel => exact ⟨i + 1, a, b, A', c', hin, by go_num, by rw [lcpI_succ, hL.out]; exact hZ5.out.1, hseh.out, by omega, hbt, (fun h => by cases h), Chg.then hC3.out hZ5.out.2 (fun j hj e => by have hb := hb0.out; rcases e with e | e; omega; have := hZ3.out.apart _ e; omega)⟩
      case measure => simp [intOf]; omega
  ·obtain rfl : i = t.size := by omega
   have hd : decide (((t.size : Nat) : Int) < (t.size : Int)) = false := decide_eq_false (by omega)
   have z0 := hZ.out.cell 0 (v := .slice A1 t.size c1) rfl
   have hR := hid (own_low hZ.row (show w.heap.size ≤ b0 + 1 from by have := hb0.out; omega))
   have hCr := hid hchg
   clear hZ hchg hse
   go_wp2
   try rw [Exit.noGoto_ret]
   go_ret
   exact ⟨⟨A1, c1, rfl, hR.out⟩, hCr.out⟩
theorem zedSelf_any (t : ByteArray) (w : World) (ht : t.size ≤ 100000000) :
  Calls Tryz.prog 161 #[.string t, .string t, .slice none 0 0] w fun e w' => (∃ A c, e = .returned (.slice A t.size c) ∧ IRow w' w.heap.size A t.size c (lcpI t t t.size)) ∧ Chg Nothing w w' := by
 have hmk := make_intCap t.size (by omega)
 have h0 : ZBoxes (((((w.alloc (.cells #[.slice none 0 0] 37)).alloc (.cells (madeCells #[.int .i64 0] t.size) 3)).alloc (.cells #[.slice (some ⟨w.heap.size + 1, 0, none⟩) 0 t.size] 37)).alloc (.cells #[.int .i64 0] 3)).alloc (.cells #[.int .i64 0] 3)) w.heap.size none 0 0 (some ⟨w.heap.size + 1, 0, none⟩) 0 t.size 0 0 [] := by
  have h1 := ((((Blk.new w #[.slice none 0 0] 37).alloc (.cells (madeCells #[.int .i64 0] t.size) 3)).alloc (.cells #[.slice (some ⟨w.heap.size + 1, 0, none⟩) 0 t.size] 37)).alloc (.cells #[.int .i64 0] 3)).alloc (.cells #[.int .i64 0] 3)
  have h2 := ((Blk.new ((w.alloc (.cells #[.slice none 0 0] 37)).alloc (.cells (madeCells #[.int .i64 0] t.size) 3)) #[.slice (some ⟨w.heap.size + 1, 0, none⟩) 0 t.size] 37).alloc (.cells #[.int .i64 0] 3)).alloc (.cells #[.int .i64 0] 3)
  have h3 := (Blk.new (((w.alloc (.cells #[.slice none 0 0] 37)).alloc (.cells (madeCells #[.int .i64 0] t.size) 3)).alloc (.cells #[.slice (some ⟨w.heap.size + 1, 0, none⟩) 0 t.size] 37)) #[.int .i64 0] 3).alloc (.cells #[.int .i64 0] 3)
  have h4 := Blk.new ((((w.alloc (.cells #[.slice none 0 0] 37)).alloc (.cells (madeCells #[.int .i64 0] t.size) 3)).alloc (.cells #[.slice (some ⟨w.heap.size + 1, 0, none⟩) 0 t.size] 37)).alloc (.cells #[.int .i64 0] 3)) #[.int .i64 0] 3
  have h5 := World.ownsRow_made (w.alloc (.cells #[.slice none 0 0] 37)) (base := w.heap.size + 1) (e := 3) (size := 1) (madeCells #[.int .i64 0] t.size) t.size (by rw [World.size_alloc]; exact Nat.le_refl _) (by unfold maxLen; omega) (by rw [size_madeCells]; omega)
  simp only [World.size_alloc] at h2 h3 h4 h5
  refine ⟨h1, h2, h3, h4, own_chg h5 ((((Chg.refl Nothing _).alloc _).alloc _).alloc _) (fun _ _ h => h), fun j ⟨a, e, hj⟩ => ?_⟩
  injection e with e
  subst e
  exact .inl hj
 have hC0 := hid ((((((Chg.refl Nothing w).alloc (.cells #[.slice none 0 0] 37)).alloc (.cells (madeCells #[.int .i64 0] t.size) 3)).alloc (.cells #[.slice (some ⟨w.heap.size + 1, 0, none⟩) 0 t.size] 37)).alloc (.cells #[.int .i64 0] 3)).alloc (.cells #[.int .i64 0] 3))
 have h0h := hid h0
 clear h0
 go_enter Tryz.func161, Tryz.ntmps161
 go_wp2_with fail
 obtain ⟨b0, hb0⟩ : ∃ b0, b0 = w.heap.size := ⟨_, rfl⟩
 try simp only [Nat.add_assoc, Nat.reduceAdd]
 rw [← hb0] at h0h hC0 ⊢
 replace hb0 := hid hb0
 go_loopw [19] (fun iv wr => ZInv w t t true b0 none 0 0 iv wr) (fun iv _ => t.size - (intOf iv).toNat)
 case atStart => exact ⟨0, 0, 0, _, _, Nat.zero_le _, rfl, h0h.out, ⟨Nat.le_refl _, Nat.zero_le _, by omega, fun j hj => by omega⟩, Nat.le_refl _, Nat.zero_le _, fun _ => .inl rfl, hC0.out⟩
 case round =>
  clear h0h hC0 hmk
  obtain ⟨i, a, b, A1, c1, hi, rfl, hZ, hse, hai, hbt, hsf, hchg⟩ := hrel
  rcases Nat.lt_or_ge i t.size with hin | hin
  ·have hi0 : (0 : Int) ≤ (i : Int) := by omega
   have hiI : (i : Int) < (t.size : Int) := by omega
   have hZh := hid hZ
   have hCr := hid hchg
   have hb5 := hid (show b0 + 5 ≤ wr.heap.size from hZ.to.lt)
   have hgo := hid (seenN_goes (i := i) hse hai (by omega))
   have hseh := hid hse
   have hS1 := hid (zedSeen_self _ i a b A1 i c1 b0 _ wr hZ.own hZ.out hZ.from_ hZ.to (IRow.els hZ.row) (fun h => ⟨hai, by have := hsf (by first | rfl | trivial); omega⟩) (by omega) (by omega))
   have hsv := hid (show (if i < b then min ((lcpI t t i).getD (i - a) 0) ((b : Int) - i) else 0) = ((seenN t a b i : Nat) : Int) from by
    unfold seenN
    by_cases hb : i < b
    ·rw [if_pos hb, if_pos hb, lcpI_getD _ _ _ _ (by have := hse.2.1; have := hsf (by first | rfl | trivial); omega)]
     try omega
    ·rw [if_neg hb, if_neg hb]; rfl)
   rw [hsv.out] at hS1
   clear hZ hse hchg
   obtain ⟨n0, hn0⟩ : ∃ n0, n0 = seenN t a b i := ⟨_, rfl⟩
   rw [← hn0] at hS1 hgo
   have hn0h := hid hn0
   clear hn0 hsv
   go_wp2_with fail
   refine hS1.out.mono ?_
   rintro e w2 ⟨rfl, hc2⟩
   have hC2 := hid (hCr.out.trans hc2)
   have hZ2 := hid (hZh.out.calm hc2)
   have hb52 := hid (Nat.le_trans hb5.out hc2.size)
   clear hc2 hZh hb5 hS1 hCr
   have hnn : ∀ W, (binOp .neq 37 (.slice none 0 0) (.slice none 0 0)).run Tryz.prog W = .ok (.bool false) W := fun W => by rw [run_neq_slice_nil W _ 3 _ _ _ Tryz.underlying37]; rfl
   have hnq : ∀ W, (binOp .eql 37 (.slice none 0 0) (.slice none 0 0)).run Tryz.prog W = .ok (.bool true) W := fun W => by rw [run_eql_slice_nil W _ 3 _ _ _ Tryz.underlying37]; rfl
   rcases Nat.eq_zero_or_pos i with hz | hz
   ·subst hz
    have hb00 : b = 0 := by rcases hsf (by first | rfl | trivial) with h | h <;> omega
    subst hb00
    have hn00 : n0 = 0 := by rw [hn0h.out]; rfl
    subst hn00
    go_wp2_with fail
    go_loopw [12] (fun nv wj => nv = .int .i64 0 ∧ ∃ q, wj = w2.drewN q) (fun nv _ => 0)
    case atStart => exact ⟨rfl, 0, rfl⟩
    case round =>
     obtain ⟨rfl, q, rfl⟩ := hrel
     have o0 := hZ2.out.own.cell 0 (v := .slice none 0 0) rfl
     have h1 : 0 < t.size := hin
     have g1 : decide ((0 : Int) < (t.size : Int)) = true := decide_eq_true (by omega)
     have hx1 : ∀ W, (Instr.index 9 (.string t) (.int .i64 0)).run Tryz.prog W = .ok (.int .u8 ((byS t 0 : Nat) : Int)) W := fun W => by
      rw [run_index_string (h := Tryz.underlying9), dif_pos ⟨by omega, by omega⟩, byS_at _ _ h1]
      simp only [Int.toNat_zero]
     have g3 : ((((byS t 0 : Nat) : Int)) == ((byS t 0 : Nat) : Int)) = true := beq_iff_eq.2 rfl
     generalize ((byS t 0 : Nat) : Int) = y1 at hx1 g3
     go_wp2_with fail
     go_quiet (fail)
     have hZ3 := hid (show ZBoxes ((w2.drewN q).drewN nq) b0 none 0 0 A1 0 c1 a 0 (lcpI t t 0) from (hZ2.out.calm ((Chg.refl Nothing w2).drewN q)).calm ((Chg.refl Nothing _).drewN nq))
     have hC3 := hid ((hC2.out.drewN q).drewN nq)
     generalize (w2.drewN q).drewN nq = w3 at hZ3 hC3 ⊢
     have q0 := hZ3.out.own.cell 0 (v := .slice none 0 0) rfl
     have z0 := hZ3.out.out.cell 0 (v := .slice A1 0 c1) rfl
     have hL := hid (show lcpN t t 0 = t.size from lcpN_self t)
     have hb54 := hid (show b0 + 5 ≤ _ from hZ3.out.to.lt)
     go_wp2_with (at_builtin; refine append_one rfl _ _ 37 rfl (b0 + 1) 3 (.int .i64 0) 8 Tryz.underlying37 infoInt rfl A1 c1 0 _ rfl hZ3.out.row (.int .i64 (t.size : Nat)) rfl rfl ?_ ?_ ?_ ?_)
     ·omega
     ·omega
     ·have := hb54.out; omega
     intro A' c' w6 hown6 hc6 hA6
     have hB6 := hZ3.out.out.chg hc6 (fun h => by have := hZ3.out.apart _ h; omega)
     have z1 := hB6.cell 0 (v := .slice A1 0 c1) rfl
     have z2 := hB6.free 0
     have z3 := hB6.lt
     have hZ5 := hid (hZ3.out.more (v := (t.size : Nat)) hb54.out hc6 hA6 hown6 _ rfl)
     clear hB6 hown6 hc6 hA6 z0
     go_wp2
     go_roundw
     case rel => exact ⟨1, a, 0, A', c', hin, by go_num, by rw [lcpI_succ, hL.out]; exact hZ5.out.1, hseh.out, by omega, Nat.zero_le _, fun _ => .inl rfl, Chg.then hC3.out hZ5.out.2 (fun j hj e => by have hb := hb0.out; rcases e with e | e; omega; have := hZ3.out.apart _ e; omega)⟩
     case measure => simp [intOf]; omega
   ·have hip : (0 : Int) < (i : Int) := by omega
    have hie : ((i : Int) == 0) = false := beq_eq_false_iff_ne.2 (by omega)
    have hw2 := hid (Chg.refl Nothing w2)
    go_wp2_with fail
    go_loopw [12] (fun nv wj => ZInn w2 t t i nv wj) (fun nv _ => t.size - (intOf nv).toNat)
    case atStart => exact ⟨n0, 0, rfl, hgo.out, rfl⟩
    case round =>
     obtain ⟨n, q, rfl, hG, rfl⟩ := hrel
     have hGh := hid hG
     obtain ⟨hn1, hn2, -⟩ := hG
     have o0 := hZ2.out.own.cell 0 (v := .slice none 0 0) rfl
     have hn0' : (0 : Int) ≤ (n : Int) := by omega
     have hwi : IntKind.i64.wrap ((i : Int) + (n : Int)) = (i : Int) + (n : Int) := by rw [IntKind.wrap_i64]; omega
     have hwn : IntKind.i64.wrap ((n : Int) + 1) = (n : Int) + 1 := by rw [IntKind.wrap_i64]; omega
     by_cases h1 : n < t.size
     ·have g1 : decide ((n : Int) < (t.size : Int)) = true := decide_eq_true (by omega)
      by_cases h2 : i + n < t.size
      ·have g2 : decide ((i : Int) + (n : Int) < (t.size : Int)) = true := decide_eq_true (by omega)
       have hin0 : (0 : Int) ≤ (i : Int) + (n : Int) := by omega
       have htn : ((i : Int) + (n : Int)).toNat = i + n := by omega
       have hx1 : ∀ W, (Instr.index 9 (.string t) (.int .i64 (n : Int))).run Tryz.prog W = .ok (.int .u8 ((byS t n : Nat) : Int)) W := fun W => by
        rw [run_index_string (h := Tryz.underlying9), dif_pos ⟨by omega, by omega⟩, byS_at _ _ h1]
        simp only [Int.toNat_natCast]
       have hx2 : ∀ W, (Instr.index 9 (.string t) (.int .i64 ((i : Int) + (n : Int)))).run Tryz.prog W = .ok (.int .u8 ((byS t (i + n) : Nat) : Int)) W := fun W => by
        rw [run_index_string (h := Tryz.underlying9), dif_pos ⟨by omega, by omega⟩, byS_at _ _ h2]
        simp only [htn]
       by_cases h3 : byS t n = byS t (i + n)
       ·have g3 : ((((byS t n : Nat) : Int)) == ((byS t (i + n) : Nat) : Int)) = true := beq_iff_eq.2 (by omega)
        have hG2 := hid (hGh.out.succ h1 h2 h3)
        generalize ((byS t n : Nat) : Int) = y1 at hx1 g3
        generalize ((byS t (i + n) : Nat) : Int) = y2 at hx2 g3
        replace h3 := hid h3
        clear htn
        go_wp2_with fail
        go_quiet (fail)
        go_wp2
        go_roundw
        case rel => exact ⟨n + 1, q + nq, by go_num, hG2.out, by rw [← World.drewN_drewN]⟩
        case measure => simp [intOf]; omega
       ·have g3 : ((((byS t n : Nat) : Int)) == ((byS t (i + n) : Nat) : Int)) = false := beq_eq_false_iff_ne.2 (by omega)
        have hL := hid (show lcpN t t i = n from (lcpN_is t t i (by omega)).eq ⟨hGh.out, fun h => h3 h.2.2⟩)
        generalize ((byS t n : Nat) : Int) = y1 at hx1 g3
        generalize ((byS t (i + n) : Nat) : Int) = y2 at hx2 g3
        replace h3 := hid h3
        clear htn
        go_wp2_with fail
        go_quiet (fail)
        have hZ3 := hid (show ZBoxes ((w2.drewN q).drewN nq) b0 none 0 0 A1 i c1 a b (lcpI t t i) from (hZ2.out.calm ((Chg.refl Nothing w2).drewN q)).calm ((Chg.refl Nothing _).drewN nq))
        have hC3 := hid ((hC2.out.drewN q).drewN nq)
        generalize (w2.drewN q).drewN nq = w3 at hZ3 hC3 ⊢
        have q0 := hZ3.out.own.cell 0 (v := .slice none 0 0) rfl
        have q4 := hZ3.out.to.cell 0 (v := .int .i64 b) rfl
        by_cases hg : b < i + n
        ·have g7 : decide ((b : Int) < (i : Int) + (n : Int)) = true := decide_eq_true (by omega)
         have q5 := hZ3.out.to.free 0
         have q6 := hZ3.out.from_.free 0
         have q7 := hZ3.out.to.lt
         have q8 := hZ3.out.from_.lt
         have q9 := hZ3.out.from_.cell 0 (v := .int .i64 a) rfl
         have hZ4 := hid (hZ3.out.seen i (i + n) _ rfl).1
         have hC4 := hid (Chg.then hC3.out (hZ3.out.seen i (i + n) _ rfl).2 (fun j hj e => by have hb := hb0.out; omega))
         have hcast : (((i + n : Nat)) : Int) = (i : Int) + (n : Int) := by omega
         rw [hcast] at hZ4 hC4
         clear hcast
         have hsV := hid (show ((w3.setCell ⟨b0 + 3, 0, none⟩ (.int .i64 (i : Int))).setCell ⟨b0 + 4, 0, none⟩ (.int .i64 ((i : Int) + (n : Int)))).heap.size = w3.heap.size from by simp)
         have z0 := hZ4.out.out.cell 0 (v := .slice A1 i c1) rfl
         have hb54 := hid (show b0 + 5 ≤ _ from hZ4.out.to.lt)
         go_wp2_with (at_builtin; refine append_one rfl _ _ 37 rfl (b0 + 1) 3 (.int .i64 0) 8 Tryz.underlying37 infoInt rfl A1 c1 i _ rfl hZ4.out.row (.int .i64 (n : Nat)) (by rw [hsV.out]; rfl) rfl ?_ ?_ ?_ ?_)
         ·omega
         ·omega
         ·have := hb54.out; omega
         intro A' c' w6 hown6 hc6 hA6
         have hB6 := hZ4.out.out.chg hc6 (fun h => by have := hZ4.out.apart _ h; omega)
         have z1 := hB6.cell 0 (v := .slice A1 i c1) rfl
         have z2 := hB6.free 0
         have z3 := hB6.lt
         have hZ5 := hid (hZ4.out.more (v := (n : Nat)) hb54.out hc6 (fun j hj => by simpa using hA6 j hj) hown6 _ rfl)
         clear hB6 hown6 hc6 hA6 z0
         go_wp2
         go_roundw
         case rel => exact ⟨i + 1, i, (i + n), A', c', hin, by go_num, by rw [lcpI_succ, hL.out]; exact hZ5.out.1, ⟨by omega, by rw [Nat.add_sub_cancel_left]; exact hGh.out⟩, by omega, by have := hGh.out.2.1; omega, fun _ => .inr (by omega), Chg.then hC4.out hZ5.out.2 (fun j hj e => by have hb := hb0.out; rcases e with e | e; omega; have := hZ4.out.apart _ e; omega)⟩
         case measure => simp [intOf]; omega
        ·have g7 : decide ((b : Int) < (i : Int) + (n : Int)) = false := decide_eq_false (by omega)
         have z0 := hZ3.out.out.cell 0 (v := .slice A1 i c1) rfl
         have hb54 := hid (show b0 + 5 ≤ _ from hZ3.out.to.lt)
         go_wp2_with (at_builtin; refine append_one rfl _ _ 37 rfl (b0 + 1) 3 (.int .i64 0) 8 Tryz.underlying37 infoInt rfl A1 c1 i _ rfl hZ3.out.row (.int .i64 (n : Nat)) rfl rfl ?_ ?_ ?_ ?_)
         ·omega
         ·omega
         ·have := hb54.out; omega
         intro A' c' w6 hown6 hc6 hA6
         have hB6 := hZ3.out.out.chg hc6 (fun h => by have := hZ3.out.apart _ h; omega)
         have z1 := hB6.cell 0 (v := .slice A1 i c1) rfl
         have z2 := hB6.free 0
         have z3 := hB6.lt
         have hZ5 := hid (hZ3.out.more (v := (n : Nat)) hb54.out hc6 (fun j hj => by simpa using hA6 j hj) hown6 _ rfl)
         clear hB6 hown6 hc6 hA6 z0
         go_wp2
         go_roundw
         case rel => exact ⟨i + 1, a, b, A', c', hin, by go_num, by rw [lcpI_succ, hL.out]; exact hZ5.out.1, hseh.out, by omega, hbt, fun _ => hsf (by first | rfl | trivial), Chg.then hC3.out hZ5.out.2 (fun j hj e => by have hb := hb0.out; rcases e with e | e; omega; have := hZ3.out.apart _ e; omega)⟩
         case measure => simp [intOf]; omega
      ·have g2 : decide ((i : Int) + (n : Int) < (t.size : Int)) = false := decide_eq_false (by omega)
       have hL := hid (show lcpN t t i = n from (lcpN_is t t i (by omega)).eq ⟨hGh.out, fun h => h2 h.2.1⟩)
       go_wp2_with fail
       go_quiet (fail)
       have hZ3 := hid (show ZBoxes ((w2.drewN q).drewN nq) b0 none 0 0 A1 i c1 a b (lcpI t t i) from (hZ2.out.calm ((Chg.refl Nothing w2).drewN q)).calm ((Chg.refl Nothing _).drewN nq))
       have hC3 := hid ((hC2.out.drewN q).drewN nq)
       generalize (w2.drewN q).drewN nq = w3 at hZ3 hC3 ⊢
       have q0 := hZ3.out.own.cell 0 (v := .slice none 0 0) rfl
       have q4 := hZ3.out.to.cell 0 (v := .int .i64 b) rfl
       by_cases hg : b < i + n
       ·have g7 : decide ((b : Int) < (i : Int) + (n : Int)) = true := decide_eq_true (by omega)
        have q5 := hZ3.out.to.free 0
        have q6 := hZ3.out.from_.free 0
        have q7 := hZ3.out.to.lt
        have q8 := hZ3.out.from_.lt
        have q9 := hZ3.out.from_.cell 0 (v := .int .i64 a) rfl
        have hZ4 := hid (hZ3.out.seen i (i + n) _ rfl).1
        have hC4 := hid (Chg.then hC3.out (hZ3.out.seen i (i + n) _ rfl).2 (fun j hj e => by have hb := hb0.out; omega))
        have hcast : (((i + n : Nat)) : Int) = (i : Int) + (n : Int) := by omega
        rw [hcast] at hZ4 hC4
        clear hcast
        have hsV := hid (show ((w3.setCell ⟨b0 + 3, 0, none⟩ (.int .i64 (i : Int))).setCell ⟨b0 + 4, 0, none⟩ (.int .i64 ((i : Int) + (n : Int)))).heap.size = w3.heap.size from by simp)
        have z0 := hZ4.out.out.cell 0 (v := .slice A1 i c1) rfl
        have hb54 := hid (show b0 + 5 ≤ _ from hZ4.out.to.lt)
        go_wp2_with (at_builtin; refine append_one rfl _ _ 37 rfl (b0 + 1) 3 (.int .i64 0) 8 Tryz.underlying37 infoInt rfl A1 c1 i _ rfl hZ4.out.row (.int .i64 (n : Nat)) (by rw [hsV.out]; rfl) rfl ?_ ?_ ?_ ?_)
        ·omega
        ·omega
        ·have := hb54.out; omega
        intro A' c' w6 hown6 hc6 hA6
        have hB6 := hZ4.out.out.chg hc6 (fun h => by have := hZ4.out.apart _ h; omega)
        have z1 := hB6.cell 0 (v := .slice A1 i c1) rfl
        have z2 := hB6.free 0
        have z3 := hB6.lt
        have hZ5 := hid (hZ4.out.more (v := (n : Nat)) hb54.out hc6 (fun j hj => by simpa using hA6 j hj) hown6 _ rfl)
        clear hB6 hown6 hc6 hA6 z0
        go_wp2
        go_roundw
        case rel => exact ⟨i + 1, i, (i + n), A', c', hin, by go_num, by rw [lcpI_succ, hL.out]; exact hZ5.out.1, ⟨by omega, by rw [Nat.add_sub_cancel_left]; exact hGh.out⟩, by omega, by have := hGh.out.2.1; omega, fun _ => .inr (by omega), Chg.then hC4.out hZ5.out.2 (fun j hj e => by have hb := hb0.out; rcases e with e | e; omega; have := hZ4.out.apart _ e; omega)⟩
        case measure => simp [intOf]; omega
       ·have g7 : decide ((b : Int) < (i : Int) + (n : Int)) = false := decide_eq_false (by omega)
        have z0 := hZ3.out.out.cell 0 (v := .slice A1 i c1) rfl
        have hb54 := hid (show b0 + 5 ≤ _ from hZ3.out.to.lt)
        go_wp2_with (at_builtin; refine append_one rfl _ _ 37 rfl (b0 + 1) 3 (.int .i64 0) 8 Tryz.underlying37 infoInt rfl A1 c1 i _ rfl hZ3.out.row (.int .i64 (n : Nat)) rfl rfl ?_ ?_ ?_ ?_)
        ·omega
        ·omega
        ·have := hb54.out; omega
        intro A' c' w6 hown6 hc6 hA6
        have hB6 := hZ3.out.out.chg hc6 (fun h => by have := hZ3.out.apart _ h; omega)
        have z1 := hB6.cell 0 (v := .slice A1 i c1) rfl
        have z2 := hB6.free 0
        have z3 := hB6.lt
        have hZ5 := hid (hZ3.out.more (v := (n : Nat)) hb54.out hc6 (fun j hj => by simpa using hA6 j hj) hown6 _ rfl)
        clear hB6 hown6 hc6 hA6 z0
        go_wp2
        go_roundw
        case rel => exact ⟨i + 1, a, b, A', c', hin, by go_num, by rw [lcpI_succ, hL.out]; exact hZ5.out.1, hseh.out, by omega, hbt, fun _ => hsf (by first | rfl | trivial), Chg.then hC3.out hZ5.out.2 (fun j hj e => by have hb := hb0.out; rcases e with e | e; omega; have := hZ3.out.apart _ e; omega)⟩
        case measure => simp [intOf]; omega
     ·have g1 : decide ((n : Int) < (t.size : Int)) = false := decide_eq_false (by omega)
      have hL := hid (show lcpN t t i = n from (lcpN_is t t i (by omega)).eq ⟨hGh.out, fun h => h1 h.1⟩)
      exact absurd (show n < t.size by omega) h1
  ·obtain rfl : i = t.size := by omega
   have hd : decide (((t.size : Nat) : Int) < (t.size : Int)) = false := decide_eq_false (by omega)
   have z0 := hZ.out.cell 0 (v := .slice A1 t.size c1) rfl
   have hR := hid (own_low hZ.row (show w.heap.size ≤ b0 + 1 from by have := hb0.out; omega))
   have hCr := hid hchg
   clear hZ hchg hse
   go_wp2
   try rw [Exit.noGoto_ret]
   go_ret
   exact ⟨⟨A1, c1, rfl, hR.out⟩, hCr.out⟩
theorem zedRowsOne_any (s : ByteArray) (w : World) (hs : s.size ≤ 100000000) :
  Calls Tryz.prog 162 #[.string s] w fun e w' => (∃ A c, e = .returned (.slice A s.size c) ∧ IRow w' w.heap.size A s.size c (lcpI s s s.size)) ∧ Chg Nothing w w' := by
 have hS := hid (zedSelf_any s w hs)
 go_enter Tryz.func162, Tryz.ntmps162
 go_wp2_with fail
 refine hS.out.mono ?_
 rintro e w2 ⟨⟨A, c, rfl, hR⟩, hc⟩
 have hRh := hid hR
 have hCh := hid hc
 clear hR hc
 go_wp2
 go_ret
 exact ⟨⟨A, c, rfl, hRh.out⟩, hCh.out⟩
def foundTo (s t : ByteArray) (k : Nat) : List Int := ((List.range k).filter fun i => decide (lcpN s t i = s.size)).map fun (i : Nat) => (i : Int)
theorem foundTo_yes {s t : ByteArray} {n : Nat} (h : lcpN s t n = s.size) : foundTo s t (n + 1) = foundTo s t n ++ [(n : Int)] := by
 unfold foundTo; rw [List.range_succ, List.filter_append, List.map_append, List.filter_cons_of_pos (by simpa using h)]; simp
theorem foundTo_no {s t : ByteArray} {n : Nat} (h : ¬ lcpN s t n = s.size) : foundTo s t (n + 1) = foundTo s t n := by
 unfold foundTo; rw [List.range_succ, List.filter_append, List.map_append, List.filter_cons_of_neg (by simpa using h)]; simp
def FdInv (s t : ByteArray) (w : World) (ov iv : Value) (wr : World) : Prop := ∃ (k L : Nat) (A : Option Addr) (c : Nat), k ≤ t.size ∧ L ≤ k ∧ iv = .int .i64 k ∧ ov = .slice A L c ∧ IRow wr w.heap.size A L c (foundTo s t k) ∧ Chg Nothing w wr
theorem zedFind_any (s t : ByteArray) (w : World) (h0 : 0 < s.size) (hs : s.size ≤ 100000000) (ht : t.size ≤ 100000000) :
  Calls Tryz.prog 141 #[.string s, .string t] w fun e w' => GivesI w.heap.size w' e (foundTo s t t.size) ∧ Chg Nothing w w' := by
 have hS := hid (zedRowsOne_any s w hs)
 have hem : (s.toList == []) = false := by
  rw [beq_eq_false_iff_ne]; intro e
  have hl : s.toList.length = s.size := by rw [ByteArray.toList_eq]; simp
  rw [e] at hl
  simp at hl; omega
 go_enter Tryz.func141, Tryz.ntmps141
 go_wp2_with fail
 refine hS.out.mono ?_
 rintro e w2 ⟨⟨A, c, rfl, hR⟩, hc⟩
 have hR2 := hid (zedRows_any _ s t A s.size c w2 (IRow.els hR) h0 hs ht)
 have hC2 := hid hc
 clear hR hc hS
 go_wp2_with fail
 refine hR2.out.mono ?_
 rintro e w3 ⟨⟨A3, c3, rfl, hR3⟩, hc3⟩
 have hC3 := hid (hC2.out.trans hc3)
 have hR3h := hid (IRow.els hR3)
 clear hc3 hR3 hR2 hC2
 go_wp2_with fail
 go_loopw [5, 16] (fun ov iv wr => FdInv s t w3 ov iv wr) (fun _ iv _ => t.size - (intOf iv).toNat)
 case atStart => exact ⟨0, 0, none, 0, Nat.zero_le _, Nat.zero_le _, rfl, rfl, World.ownsRow_nil _ _ _ _, Chg.refl _ _⟩
 case round =>
  obtain ⟨k, L, A1, c1, hk, hLk, rfl, rfl, hown, hchg⟩ := hrel
  rcases Nat.lt_or_ge k t.size with hkn | hkn
  ·obtain ⟨ga, oa, rfl, -, hgla, xa⟩ := (hR3h.out.chg hchg (fun _ _ _ h => h)).at_ hkn
   rw [lcpI_getD _ _ _ _ hkn] at xa
   have hk0 : (0 : Int) ≤ (k : Int) := by omega
   have hkI : (k : Int) < (t.size : Int) := by omega
   have hOw := hid hown
   have hCr := hid hchg
   have hy := hid (fun h => foundTo_yes (s := s) (t := t) (n := k) h)
   have hno := hid (fun h => foundTo_no (s := s) (t := t) (n := k) h)
   have hle := hid (lcpN_le s t k (by omega))
   obtain ⟨x, hx⟩ : ∃ x, x = lcpN s t k := ⟨_, rfl⟩
   rw [← hx] at xa hy hno hle
   clear hown hchg hx
   by_cases hxk : x = s.size
   ·have hyy := hid (hy.out hxk)
    have g1 : ((x : Int) == (s.size : Int)) = true := beq_iff_eq.2 (by omega)
    replace hxk := hid hxk
    go_wp2_with (at_builtin; refine append_one rfl _ _ 37 rfl w3.heap.size 3 (.int .i64 0) 8 Tryz.underlying37 infoInt rfl A1 c1 L _ rfl hOw.out (.int .i64 (k : Nat)) rfl rfl ?_ ?_ ?_ ?_)
    ·omega
    ·omega
    ·exact hCr.out.size
    intro A' c' w6 hown6 hc6 hA6
    have hO6 := hid (show IRow w6 w3.heap.size A' (L + 1) c' (foundTo s t (k + 1)) from by rw [hyy.out]; unfold IRow; rw [List.map_append]; exact hown6)
    have oa6 := own_of hOw.out
    have hC6 := hid (hCr.out.then hc6 (fun i hi h => by have := oa6 _ h; omega))
    clear hown6 hc6 hA6
    go_wp2
    go_roundw
    case rel => exact ⟨k + 1, L + 1, A', c', hkn, by omega, by go_num, rfl, hO6.out, hC6.out⟩
    case measure => simp [intOf]; omega
   ·have hnn := hid (hno.out hxk)
    have g1 : ((x : Int) == (s.size : Int)) = false := beq_eq_false_iff_ne.2 (by omega)
    replace hxk := hid hxk
    go_wp2
    go_roundw
    case rel => exact ⟨k + 1, L, A1, c1, hkn, by omega, by go_num, rfl, by rw [hnn.out]; exact hOw.out, hCr.out⟩
    case measure => simp [intOf]; omega
  ·obtain rfl : k = t.size := by omega
   have hd : decide (((t.size : Nat) : Int) < (t.size : Int)) = false := decide_eq_false (by omega)
   have hl := hid hown.1
   have hOw := hid hown
   have hCr := hid hchg
   clear hown hchg
   go_wp2
   go_ret
   have hL : L = (foundTo s t t.size).length := by have := hl.out; simpa using this.symm
   subst hL
   exact ⟨⟨_, _, rfl, own_low hOw.out hC3.out.size⟩, hC3.out.trans hCr.out⟩
theorem lettersS_size (xs : List Cls) : (lettersS xs).size = xs.length := by unfold lettersS; rw [strOfNums_size, List.length_map]
theorem lettersS_at (xs : List Cls) (j : Nat) (h : j < xs.length) (h1 : sizeC (xs.getD j 0) = 1) : (xs.getD j 0) = BitVec.twoPow 256 (byS (lettersS xs) j) ∧ byS (lettersS xs) j < 256 := by
 obtain ⟨b, hb, hx⟩ := sizeC_one h1
 have hbyt : bytC (xs.getD j 0) = b := by unfold bytC; rw [hx, singleC_two b hb]
 have : byS (lettersS xs) j = b := by
  unfold byS lettersS strOfNums
  simp only [List.getElem?_toArray, List.getElem?_map]
  have h2 : xs[j]? = some (xs.getD j 0) := by rw [List.getD_eq_getElem?_getD, List.getElem?_eq_getElem h]; rfl
  rw [h2]
  simp only [Option.map_some, Option.getD_some, hbyt, Int.toNat_natCast]
  rw [UInt8.toNat_ofNat']
  exact Nat.mod_eq_of_lt hb
 rw [this]
 exact ⟨hx, hb⟩
theorem letters_miss {xs : List Cls} {t : ByteArray} {i : Nat} (hL : lettersB xs = true) (hi : i + xs.length ≤ t.size) : missN xs t i ≤ 0 ↔ lcpN (lettersS xs) t i = (lettersS xs).size := by
 rw [lettersB_iff] at hL
 rw [found_iff (by omega), lettersS_size]
 have hz : missN xs t i ≤ 0 ↔ ∀ j, j < xs.length → missB xs t i j = 0 := by
  have h0 := sumN_zero_iff xs.length (missB xs t i) (fun j _ => by unfold missB; split <;> decide)
  rw [show sumN xs.length (missB xs t i) = missN xs t i from rfl] at h0
  have h1 := (missTo_bound xs t i xs.length).1
  rw [missTo_all] at h1
  rw [← h0]
  omega
 rw [hz]
 constructor
 ·intro h
  refine ⟨hi, fun j hj => ?_⟩
  obtain ⟨hx, hlt⟩ := lettersS_at xs j hj (hL j hj)
  have h2 := h j hj
  unfold missB at h2
  rw [hx, BitVec.getLsbD_twoPow] at h2
  by_cases h3 : byS (lettersS xs) j = (t.data[i + j]?.getD 0).toNat
  ·exact h3
  ·rw [if_neg (by simp [h3])] at h2; omega
 ·rintro ⟨-, h⟩ j hj
  obtain ⟨hx, hlt⟩ := lettersS_at xs j hj (hL j hj)
  unfold missB
  rw [hx, BitVec.getLsbD_twoPow, h j hj]
  have h256 := UInt8.toNat_lt (t.data[i + j]?.getD 0)
  rw [if_pos]
  show (decide _ && decide _) = true
  unfold byS
  simpa using h256
theorem found_few {xs : List Cls} {t : ByteArray} (hL : lettersB xs = true) (h1 : 1 ≤ xs.length) : foundTo (lettersS xs) t t.size = fewTo xs 0 t (t.size + 1 - xs.length) := by
  unfold foundTo fewTo
  congr 1
  have hsplit : List.range t.size = (List.range t.size).filter (fun i => decide (i < t.size + 1 - xs.length)) ++ [] ∨ True := .inr trivial
  have hm : t.size + 1 - xs.length ≤ t.size := by omega
  have key : ∀ i, i < t.size → (decide (lcpN (lettersS xs) t i = (lettersS xs).size) = (decide (i < t.size + 1 - xs.length) && decide (missN xs t i ≤ 0))) := by
    intro i hi
    by_cases h : i < t.size + 1 - xs.length
    · have := letters_miss (t := t) (i := i) hL (by omega)
      simp [h, this]
    · have hne : ¬ lcpN (lettersS xs) t i = (lettersS xs).size := by
        rw [found_iff (by omega), lettersS_size]
        rintro ⟨h2, -⟩; omega
      simp [h, hne]
  have gen : ∀ n m, m ≤ n → n ≤ t.size → m = min n (t.size + 1 - xs.length) → (List.range n).filter (fun i => decide (lcpN (lettersS xs) t i = (lettersS xs).size)) = (List.range m).filter (fun i => decide (missN xs t i ≤ 0)) := by
    intro n
    induction n with
    | zero => intro m hm _ _; obtain rfl : m = 0 := by omega
              rfl
    | succ n ih =>
      intro m hmn hn hme
      rw [List.range_succ, List.filter_append, ih (min n (t.size + 1 - xs.length)) (by omega) (by omega) rfl]
      have hk := key n (by omega)
      by_cases h : n < t.size + 1 - xs.length
      · rw [show m = n + 1 from by omega, show min n (t.size + 1 - xs.length) = n from by omega, List.range_succ, List.filter_append]
        congr 1
        simp only [List.filter_cons, List.filter_nil]
        rw [hk]
        simp [h]
      · rw [show m = t.size + 1 - xs.length from by omega, show min n (t.size + 1 - xs.length) = t.size + 1 - xs.length from by omega]
        simp only [List.filter_cons, List.filter_nil]
        rw [hk]
        simp [h]
  exact gen t.size (t.size + 1 - xs.length) hm (Nat.le_refl _) (by omega)
theorem zedLeaf_any (F : Nat → Prop) (A : Option Addr) (n c : Nat) (xs : List Cls) (t : ByteArray) (w : World) (H : ClsRow F w A n c xs) (hl : xs.length = n) (ht : t.size ≤ 100000000) (hL : lettersB xs = true) (hr : rightB xs 0 = true) :
  Calls Tryz.prog 115 #[.agg #[.slice A n c, .int .i64 0], .string t] w fun e w' => (∃ A' c', e = .returned (.tuple #[.slice A' (fewTo xs 0 t (t.size + 1 - n)).length c', .bool true]) ∧ IRow w' w.heap.size A' (fewTo xs 0 t (t.size + 1 - n)).length c' (fewTo xs 0 t (t.size + 1 - n))) ∧ Chg Nothing w w' := by
 have hX := Blk.new w #[.slice A n c, .int .i64 0] 34
 have x0 := hX.cell 0 (v := .slice A n c) rfl
 have x1 := hX.cell 1 (v := .int .i64 0) rfl
 have hxl := hX.lt
 have hw0 := hid ((Chg.refl Nothing w).alloc (.cells #[.slice A n c, .int .i64 0] 34))
 have h64 := right_len hr
 have hLt := hid (leafLetters_any F A n c xs 0 (w.alloc (.cells #[.slice A n c, .int .i64 0] 34)) (H.chg hw0.out (fun _ _ _ h => h)) hl (by omega))
 have hRt := hid (fun (w' : World) (hc : Chg Nothing w w') => leafRight_any F A n c xs 0 w' (H.chg hc (fun _ _ _ h => h)) hl)
 have hFd := hid (fun (w' : World) => zedFind_any (lettersS xs) t w' (by rw [lettersS_size]; omega) (by rw [lettersS_size]; omega) ht)
 have hfe := hid (show foundTo (lettersS xs) t t.size = fewTo xs 0 t (t.size + 1 - n) from by rw [← hl]; exact found_few hL h64.1)
 rw [hfe.out] at hFd
 rw [hr] at hRt
 unfold lettersV at hLt
 rw [if_pos hL] at hLt
 generalize fewTo xs 0 t (t.size + 1 - n) = ys at hFd ⊢
 generalize lettersS xs = s at hLt hFd
 clear hX H hl hL hr hfe h64
 go_enter Tryz.func115, Tryz.ntmps115
 go_wp2_with fail
 refine hLt.out.mono ?_
 rintro e w1 ⟨rfl, hc1⟩
 have y0 := (hc1.cells.1 _ _ hxl).trans x0
 have y1 := (hc1.cells.1 _ _ hxl).trans x1
 have hly := Nat.lt_of_lt_of_le hxl hc1.size
 have hC1 := hid (hw0.out.trans hc1)
 clear hc1 x0 x1 hxl hLt
 go_wp2_with fail
 refine (hRt.out _ hC1.out).mono ?_
 rintro e w2 ⟨rfl, hc2⟩
 have x1 := (hc2.cells.1 _ _ hly).trans y1
 have hC2 := hid (hC1.out.trans hc2)
 clear hc2 y0 y1 hly
 go_wp2_with fail
 refine (hFd.out _).mono ?_
 rintro e w3 ⟨⟨A', c', rfl, hR3⟩, hc3⟩
 have hC3 := hid (hC2.out.trans hc3)
 have hR3h := hid (own_low hR3 hC2.out.size)
 clear hc3 hR3
 go_wp2
 go_ret2
 exact ⟨⟨A', c', rfl, hR3h.out⟩, hC3.out⟩
end Go.Proofs.YtoelilejohfglaaGreat
