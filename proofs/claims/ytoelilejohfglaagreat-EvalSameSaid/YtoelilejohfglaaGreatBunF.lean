/- Joined texts: LeafA LeafB RgtA. -/
import Derived.Test.YtoelilejohfglaaGreatBunB
import Derived.Deep.DrawnRows
import Derived.Deep.RegionWith
import Derived.Test.YtoelilejohfglaaGreatBunA
import Derived.Deep.RegionLaw
set_option maxHeartbeats 16000000
set_option maxRecDepth 100000
namespace Go.Proofs.YtoelilejohfglaaGreat
open Go.RowKit
set_option linter.unusedVariables false
set_option linter.unusedSimpArgs false
attribute [local go_sem ↓] Go.wp_at_zero Go.wp_at_succ
abbrev ClsRow (F : Nat → Prop) (w : World) (A : Option Addr) (n c : Nat) (xs : List Cls) : Prop := RowAt 4 F w A n c (xs.flatMap clsL)
theorem clsL_size (x : Cls) : (clsL x).length = 4 := rfl
theorem ClsRow.four {F : Nat → Prop} {w : World} {A : Option Addr} {n c : Nat} {xs : List Cls} (h : ClsRow F w A n c xs) (hl : xs.length = n) {k : Nat} (hk : k < n) :
  ∃ g o, A = some ⟨g, o, none⟩ ∧ F g ∧ g < w.heap.size ∧ w.cell? ⟨g, o + k * 4, none⟩ = some (.int .u64 (wd (xs.getD k 0) 0)) ∧ w.cell? ⟨g, o + k * 4 + 1, none⟩ = some (.int .u64 (wd (xs.getD k 0) 1)) ∧ w.cell? ⟨g, o + k * 4 + 2, none⟩ = some (.int .u64 (wd (xs.getD k 0) 2)) ∧ w.cell? ⟨g, o + k * 4 + 3, none⟩ = some (.int .u64 (wd (xs.getD k 0) 3)) := by
 obtain ⟨g, o, e, hF, hlt, hc⟩ := h.cell hk (by decide)
 have c0 := hc 0 (by decide)
 have c1 := hc 1 (by decide)
 have c2 := hc 2 (by decide)
 have c3 := hc 3 (by decide)
 rw [flat_getD clsL 4 clsL_size 0 xs k _ (by omega) (by decide)] at c0 c1 c2 c3
 exact ⟨g, o, e, hF, hlt, c0, c1, c2, c3⟩
def IxInv (v : Cls) (xs : List Cls) (w : World) (iv : Value) (wr : World) : Prop := ∃ k : Nat, k ≤ xs.length ∧ iv = .int .i64 k ∧ Hid (∀ j, j < k → xs.getD j 0 ≠ v) ∧ CBox wr w.heap.size v ∧ Chg Nothing w wr
def ixS (v : Cls) (xs : List Cls) (r : Int) : Prop := (r = -1 ∧ v ∉ xs) ∨ (0 ≤ r ∧ v ∈ xs)
def IxAns (v : Cls) (xs : List Cls) (w : World) (e : Ending) (w' : World) : Prop := ∃ r : Int, e = .returned (.int .i64 r) ∧ ixS v xs r ∧ Chg Nothing w w'
theorem sIndex_any (F : Nat → Prop) (A : Option Addr) (n c : Nat) (xs : List Cls) (v : Cls) (w : World) (H : ClsRow F w A n c xs) (hl : xs.length = n) :
  Calls Tryz.prog 156 #[.slice A n c, .agg #[.int .u64 (wd v 0), .int .u64 (wd v 1), .int .u64 (wd v 2), .int .u64 (wd v 3)]] w (IxAns v xs w) := by
 have HH := hid H
 have hlh := hid hl
 have hmx := H.max
 have hle := H.le
 clear H hl
 go_enter Tryz.func156, Tryz.ntmps156
 go_wp2_with fail
 go_loopw [8] (fun iv wr => IxInv v xs w iv wr) (fun iv _ => n - (intOf iv).toNat)
 case atStart => exact ⟨0, Nat.zero_le _, rfl, hid (fun j h => by omega), Blk.new w _ _, (Chg.refl _ _).alloc _⟩
 case round =>
  obtain ⟨k, hk, rfl, hall, hbx, hchg⟩ := hrel
  rw [hlh.out] at hk
  rcases Nat.lt_or_ge k n with hkn | hkn
  ·obtain ⟨g, o, rfl, -, hgl, c0, c1, c2, c3⟩ := ClsRow.four (HH.out.chg hchg (fun _ _ _ h => h)) hlh.out hkn
   have HBx := hid hbx
   obtain ⟨r0, r1, r2, r3, f0, f1, f2, f3, hlt⟩ := CBox.at_ hbx
   clear hbx
   have hmem := hid (show xs.getD k 0 ∈ xs from by
    rw [List.getD_eq_getElem?_getD, List.getElem?_eq_getElem (by rw [hlh.out]; exact hkn)]
    exact List.getElem_mem _)
   have hgk : ∃ y, y = xs.getD k 0 := ⟨_, rfl⟩
   obtain ⟨y, hy⟩ := hgk
   rw [← hy] at c0 c1 c2 c3 hmem
   replace hy := hid hy
   have hq := eq_class v y
   have hk0 : (0 : Int) ≤ (k : Int) := by omega
   have hkn' : (k : Int) < (n : Int) := by omega
   by_cases he : v = y
   ·rw [decide_eq_true he] at hq
    unfold encC at hq
    replace he := hid he
    go_wp2_with fail
    go_quiet (fail)
    go_wp2
    go_ret
    exact ⟨_, rfl, .inr ⟨hk0, by rw [he.out]; exact hmem.out⟩, hchg.drewN _⟩
   ·rw [decide_eq_false he] at hq
    unfold encC at hq
    replace he := hid he
    go_wp2_with fail
    go_quiet (fail)
    go_wp2
    go_roundw
    case rel =>
     refine ⟨k + 1, by rw [hlh.out]; exact hkn, by go_num, hid (fun j hj => ?_), Blk.drewN HBx.out _, hchg.drewN _⟩
     rcases Nat.lt_or_ge j k with h | h
     ·exact hall.out j h
     ·have e : j = k := by omega
      rw [e, ← hy.out]; exact fun h => he.out h.symm
    case measure => simp [intOf]; omega
  ·have hd : decide ((k : Int) < (n : Int)) = false := decide_eq_false (by omega)
   have hno : Hid (v ∉ xs) := hid (fun h => by
    obtain ⟨j, hj, e⟩ := List.getElem_of_mem h
    exact hall.out j (by rw [hlh.out] at hj; omega) (by rw [List.getD_eq_getElem?_getD, List.getElem?_eq_getElem hj]; exact e))
   clear hbx
   go_wp2
   go_ret
   exact ⟨-1, rfl, .inl ⟨rfl, hno.out⟩, hchg⟩
theorem ixS_has {v : Cls} {xs : List Cls} {r : Int} (h : ixS v xs r) : decide (0 ≤ r) = decide (v ∈ xs) := by
 rcases h with ⟨rfl, h⟩ | ⟨h0, h⟩
 ·simp [h]
 ·simp [h, h0]
theorem sContains_any (F : Nat → Prop) (A : Option Addr) (n c : Nat) (xs : List Cls) (v : Cls) (w : World) (H : ClsRow F w A n c xs) (hl : xs.length = n) :
  Calls Tryz.prog 133 #[.slice A n c, .agg #[.int .u64 (wd v 0), .int .u64 (wd v 1), .int .u64 (wd v 2), .int .u64 (wd v 3)]] w fun e w' => e = .returned (.bool (decide (v ∈ xs))) ∧ Chg Nothing w w' := by
 have hX := Blk.new w (cellsC v) 84
 obtain ⟨r0, r1, r2, r3, f0, f1, f2, f3, hlt⟩ := CBox.at_ hX
 have H1 := hid (H.chg ((Chg.refl Nothing w).alloc (.cells (cellsC v) 84)) (fun _ _ _ h => h))
 have hlh := hid hl
 clear H hl hX
 go_enter Tryz.func133, Tryz.ntmps133
 go_wp2_with fail
 refine (sIndex_any F A n c xs v _ H1.out hlh.out).mono ?_
 rintro e w1 ⟨r, rfl, hr, hc⟩
 have hb := hid (ixS_has hr)
 clear hr
 go_wp2
 go_ret
 exact ⟨by rw [← hb.out]; rfl, ((Chg.refl Nothing w).alloc _).trans hc⟩
def rightB (xs : List Cls) (K : Int) : Bool := decide (1 ≤ xs.length ∧ xs.length ≤ 64 ∧ 0 ∉ xs ∧ 0 ≤ K ∧ K ≤ 64)
theorem leafRight_any (F : Nat → Prop) (A : Option Addr) (n c : Nat) (xs : List Cls) (K : Int) (w : World) (H : ClsRow F w A n c xs) (hl : xs.length = n) :
  Calls Tryz.prog 90 #[.agg #[.slice A n c, .int .i64 K]] w fun e w' => e = .returned (.bool (rightB xs K)) ∧ Chg Nothing w w' := by
 have hX := Blk.new w #[.slice A n c, .int .i64 K] 34
 have HX := hid hX
 have x0 := hX.cell 0 rfl
 have x1 := hX.cell 1 rfl
 have hlx := hX.lt
 have H1 := hid (H.chg ((Chg.refl Nothing w).alloc (.cells #[.slice A n c, .int .i64 K] 34)) (fun _ _ _ h => h))
 have hlh := hid hl
 have hZ := hid (fun w h => by have := sContains_any F A n c xs 0 w h hlh.out; simp only [wd_zero] at this; exact this : ∀ w, ClsRow F w A n c xs → Calls Tryz.prog 133 #[.slice A n c, .agg #[.int .u64 0, .int .u64 0, .int .u64 0, .int .u64 0]] w fun e w' => e = .returned (.bool (decide ((0 : Cls) ∈ xs))) ∧ Chg Nothing w w')
 have hrb : rightB xs K = decide (1 ≤ n ∧ n ≤ 64 ∧ (0 : Cls) ∉ xs ∧ 0 ≤ K ∧ K ≤ 64) := by unfold rightB; rw [hl]
 clear H hl hX
 have hcase : ¬ (1 ≤ n) ∨ ((1 ≤ n) ∧ ¬ (n ≤ 64)) ∨ ((1 ≤ n) ∧ (n ≤ 64)) := by omega
 obtain ⟨z, hz⟩ : ∃ z, z = decide ((0 : Cls) ∈ xs) := ⟨_, rfl⟩
 rw [← hz] at hZ
 have hb : rightB xs K = (decide (1 ≤ n) && decide (n ≤ 64) && !z && decide (0 ≤ K) && decide (K ≤ 64)) := by
  rw [hrb, hz, Bool.eq_iff_iff]; simp; constructor
  ·rintro ⟨h1, h2, h3, h4, h5⟩; exact ⟨⟨⟨⟨h1, h2⟩, h3⟩, h4⟩, h5⟩
  ·rintro ⟨⟨⟨⟨h1, h2⟩, h3⟩, h4⟩, h5⟩; exact ⟨h1, h2, h3, h4, h5⟩
 replace hb := hid hb
 replace hz := hid hz
 clear hrb
 rcases hcase with h1 | ⟨h1, h2⟩ | ⟨h1, h2⟩
 ·have hd : decide ((1 : Int) ≤ (n : Int)) = false := decide_eq_false (by omega)
  go_enter Tryz.func90, Tryz.ntmps90
  go_wp2_with fail
  refine (hZ.out _ H1.out).mono ?_
  rintro e w1 ⟨rfl, hc⟩
  have y0 := (hc.cells.1 _ _ hlx).trans x0
  have hch := hid (((Chg.refl Nothing w).alloc (.cells #[.slice A n c, .int .i64 K] 34)).trans hc)
  clear hc
  go_wp2
  go_ret
  exact ⟨by rw [hb.out, show decide (1 ≤ n) = false from decide_eq_false h1]; rfl, hch.out⟩
 ·have hd : decide ((1 : Int) ≤ (n : Int)) = true := decide_eq_true (by omega)
  have hd2 : decide ((n : Int) ≤ 64) = false := decide_eq_false (by omega)
  go_enter Tryz.func90, Tryz.ntmps90
  go_wp2_with fail
  refine (hZ.out _ H1.out).mono ?_
  rintro e w1 ⟨rfl, hc⟩
  have y0 := (hc.cells.1 _ _ hlx).trans x0
  have hch := hid (((Chg.refl Nothing w).alloc (.cells #[.slice A n c, .int .i64 K] 34)).trans hc)
  clear hc
  go_wp2
  go_ret
  exact ⟨by rw [hb.out, show decide (n ≤ 64) = false from decide_eq_false h2]; simp, hch.out⟩
 ·have hd : decide ((1 : Int) ≤ (n : Int)) = true := decide_eq_true (by omega)
  have hd2 : decide ((n : Int) ≤ 64) = true := decide_eq_true (by omega)
  have hb2 := hid (show rightB xs K = (!z && decide (0 ≤ K) && decide (K ≤ 64)) from by rw [hb.out, show decide (1 ≤ n) = true from decide_eq_true h1, show decide (n ≤ 64) = true from decide_eq_true h2]; rfl)
  go_enter Tryz.func90, Tryz.ntmps90
  go_wp2_with fail
  refine (hZ.out _ H1.out).mono ?_
  rintro e w1 ⟨rfl, hc⟩
  have y0 := (hc.cells.1 _ _ hlx).trans x0
  have y1 := (hc.cells.1 _ _ hlx).trans x1
  have hch := hid (((Chg.refl Nothing w).alloc (.cells #[.slice A n c, .int .i64 K] 34)).trans hc)
  clear hc
  cases z
  all_goals
   go_wp2
   all_goals
    go_ret
    refine ⟨?_, hch.out⟩
    rw [hb2.out]
    first | rfl | (simp [*]; done) | (simp [*]; omega) | (simp; omega)
end Go.Proofs.YtoelilejohfglaaGreat
namespace Go.Proofs.YtoelilejohfglaaGreat
open Go.RowKit
set_option linter.unusedVariables false
set_option linter.unusedSimpArgs false
attribute [local go_sem ↓] Go.wp_at_zero Go.wp_at_succ
def byteC (s : ByteArray) (i : Nat) : Cls := ofC (s.extract i (i + 1))
def textC (s : ByteArray) : List Cls := (List.range s.size).map (byteC s)
theorem textC_len (s : ByteArray) : (textC s).length = s.size := by unfold textC; simp
theorem textC_take (s : ByteArray) (k : Nat) (h : k < s.size) : (textC s).take (k + 1) = (textC s).take k ++ [byteC s k] := by
 rw [List.take_succ_eq_append_getElem (by rw [textC_len]; exact h)]
 congr 1
 simp [textC]
theorem clsL_new (w : World) (x : Cls) (j : Nat) (u : Value) (h : (clsL x)[j]? = some u) : (w.alloc (.cells #[.int .u64 (wd x 0), .int .u64 (wd x 1), .int .u64 (wd x 2), .int .u64 (wd x 3)] 84)).cell? ((⟨w.heap.size, 0, none⟩ : Addr).add j) = some u := by
 rw [add_plain, Nat.zero_add]
 exact (Blk.new w _ _).cell j (by simpa [clsL] using h)
def LtInv (w : World) (s : ByteArray) (K : Int) (iv : Value) (wr : World) : Prop := ∃ (k : Nat) (A : Option Addr) (c : Nat), k ≤ s.size ∧ iv = .int .i64 k ∧ Blk wr (w.heap.size + 1) #[.slice A k c, .int .i64 K] 34 ∧ Blk wr w.heap.size #[.slice none 0 0, .int .i64 0] 34 ∧
 Hid (wr.ownsRow w.heap.size 84 4 (.slice A k c) k (((textC s).take k).flatMap clsL)) ∧ (∀ j, Of A j → w.heap.size + 2 ≤ j) ∧ Chg Nothing w wr
theorem lt_step {w wr w3 : World} {s : ByteArray} {K : Int} {k c c' : Nat} {A A' : Option Addr} (hk : k < s.size) (hB : Blk wr (w.heap.size + 1) #[.slice A k c, .int .i64 K] 34) (hZ : Blk wr w.heap.size #[.slice none 0 0, .int .i64 0] 34) (hof : ∀ j, Of A j → w.heap.size + 2 ≤ j) (hC : Chg Nothing w wr)
  (hc3 : Chg (Of A) wr w3) (hown : w3.ownsRow w.heap.size 84 4 (.slice A' (k + 1) c') (k + 1) (((textC s).take k).flatMap clsL ++ clsL (byteC s k))) (hof' : ∀ j, Of A' j → Of A j ∨ wr.heap.size ≤ j) :
  ∀ V, V = w3.setCell ⟨w.heap.size + 1, 0, none⟩ (.slice A' (k + 1) c') → LtInv w s K (.int .i64 (k + 1 : Nat)) V := by
 rintro V rfl
 have hg : w.heap.size + 1 < wr.heap.size := hB.lt
 have h1 : ¬ Of A (w.heap.size + 1) := fun h => by have := hof _ h; omega
 have h2 : ¬ Of A w.heap.size := fun h => by have := hof _ h; omega
 have hof2 : ∀ j, Of A' j → w.heap.size + 2 ≤ j := fun j hj => by
  rcases hof' j hj with h | h
  ·exact hof j h
  ·omega
 have hs : Chg (One (w.heap.size + 1)) w3 (w3.setCell ⟨w.heap.size + 1, 0, none⟩ (.slice A' (k + 1) c')) := (Chg.refl _ _).setOne 0 _
 refine ⟨k + 1, A', c', hk, rfl, (hB.chg hc3 h1).set 0 _, (hZ.chg hc3 h2).other (by simp) _, hid ?_, hof2, ((hC.then hc3 (fun j hj h => by have := hof j h; omega))).then hs (fun j hj h => by unfold One at h; omega)⟩
 rw [textC_take s k hk, List.flatMap_append]
 rw [show [byteC s k].flatMap clsL = clsL (byteC s k) from by simp]
 exact own_chg hown hs (fun j hj h => by have := hof2 j hj; unfold One at h; omega)
theorem leafText_any (s : ByteArray) (K : Int) (w : World) (hs : s.size ≤ 1000000000) :
  Calls Tryz.prog 26 #[.string s, .int .i64 K] w fun e w' => ∃ A c, e = .returned (.agg #[.slice A s.size c, .int .i64 K]) ∧ ClsRow (fun k => w.heap.size ≤ k) w' A s.size c (textC s) ∧ Chg Nothing w w' := by
 go_enter Tryz.func26, Tryz.ntmps26
 go_wp2_with fail
 go_loopw [11] (fun iv wr => LtInv w s K iv wr) (fun iv _ => s.size - (intOf iv).toNat)
 case atStart =>
  exact ⟨0, none, 0, Nat.zero_le _, rfl, by have := Blk.new (w.alloc (.cells #[.slice none 0 0, .int .i64 0] 34)) #[.slice none 0 0, .int .i64 K] 34; rwa [World.size_alloc] at this, (Blk.new w _ _).alloc _, hid (World.ownsRow_nil _ _ _ _), (fun j ⟨a, e, _⟩ => by cases e), ((Chg.refl Nothing w).alloc _).alloc _⟩
 case round =>
  obtain ⟨k, A, c, hk, rfl, hB, hZ, hown, hof, hchg⟩ := hrel
  have x0 := hB.cell 0 (v := .slice A k c) rfl
  have x1 := hB.cell 1 (v := .int .i64 K) rfl
  have f0 := hB.free 0
  have hbl := hB.lt
  rcases Nat.lt_or_ge k s.size with hks | hks
  ·have hBh := hid hB
   have hZh := hid hZ
   have hofh := hid hof
   have hch := hid hchg
   clear hB hZ hof hchg
   have hk0 : (0 : Int) ≤ (k : Int) := by omega
   have hks' : (k : Int) < (s.size : Int) := by omega
   have hexs : Hid ((s.extract k (k + 1)).size = 1) := hid (by simp; omega)
   have hOf := hid (fun w' => classOfL (s.extract k (k + 1)) w' (by have := hexs.out; omega))
   have hks2 : (k : Int) + 1 ≤ (s.size : Int) := by omega
   have hwr : IntKind.i64.wrap ((k : Int) + 1) = (k : Int) + 1 := by rw [IntKind.wrap_i64]; omega
   have hk1 : (0 : Int) ≤ (k : Int) + 1 := by omega
   have hk2 : (k : Int) ≤ (k : Int) + 1 := by omega
   have hk3 : ((k : Int) + 1).toNat = k + 1 := by omega
   have hm1 : k + 1 ≤ maxLen := by unfold maxLen; omega
   have hm2 : (k + 1) * 32 ≤ 140737488355328 := by omega
   have hbw : w.heap.size ≤ wr.heap.size := by have := hch.out.size; exact this
   have hOwn := hown
   go_wp2_with fail
   go_region_law
    (first
    | (go_simp; go_at_call 58; (with_reducible refine (hOf.out _).mono ?_); rintro e w2 ⟨rfl, hc2⟩; have hC2 := hid ((Chg.refl Nothing wr).drew.trans hc2); have hB2 := hBh.out.chg hC2.out id; have y0 := hB2.cell 0 (v := .slice A k c) rfl; have e0 := hB2.free 0; have hl2 := hB2.lt; clear hB2)
    | (refine step_append_gen (o := ⟨some 23, _, _, _, _, _⟩) rfl _ _ 32 rfl w.heap.size 84 (.agg #[.int .u64 0, .int .u64 0, .int .u64 0, .int .u64 0]) 4 32 Tryz.underlying32 infoCl rfl (by decide) A c k _ rfl (own_chg hOwn.out (hC2.out.alloc _) (fun _ _ h => h)) (some ⟨w2.heap.size, 0, none⟩) 1 1 (clsL (byteC s k)) rfl rfl (fun e => by cases e) (Nat.le_refl _) (fun ad e j u hj => by injection e with e; subst e; exact clsL_new _ _ _ _ hj) (clsL_one _) hm1 hm2 (Nat.le_trans hbw (Nat.le_trans hC2.out.size (by rw [World.size_alloc]; exact Nat.le_succ _))) ?_; intro A4 c4 w4 hown4 hc4 hA4; have hB4 := (hBh.out.chg (hC2.out.alloc _) id).chg hc4 (fun h => by have := hofh.out _ h; omega); have e4 := hB4.free 0; have y4 := hB4.cell 0 (v := .slice A k c) rfl; have hl4 := hB4.lt; clear hB4))
   all_goals
    have hD := hid (lt_step hks hBh.out hZh.out hofh.out hch.out (Chg.then (Chg.mono (hC2.out.alloc _) (fun _ _ h => h.elim)) hc4 (fun _ _ h => h)) hown4 (fun j hj => by rcases hA4 j hj with h | h; exact .inl h; exact .inr (Nat.le_trans (Nat.le_trans hC2.out.size (by rw [World.size_alloc]; exact Nat.le_succ _)) h)) _ rfl)
    clear hown4 hc4 hA4 y0 y4 x0 x1
    go_wp2
    go_roundw
    case rel => exact hD.out
    case measure => simp [intOf]; omega
  ·obtain rfl : k = s.size := by omega
   have hd : decide (((s.size : Nat) : Int) < (s.size : Int)) = false := decide_eq_false (by omega)
   have z0 := hZ.cell 0 (v := .slice none 0 0) rfl
   have z1 := hZ.cell 1 (v := .int .i64 0) rfl
   have g0 := hZ.free 0
   have g1 := hZ.free 1
   have hzl := hZ.lt
   have hBh := hid hB
   have hZh := hid hZ
   have hofh := hid hof
   have hch := hid hchg
   clear hB hZ hof hchg
   go_wp2
   have hP := (hZh.out.set 0 (.slice A s.size c)).set 1 (.int .i64 K)
   have r0 := hP.cell 0 (v := .slice A s.size c) rfl
   have r1 := hP.cell 1 (v := .int .i64 K) rfl
   have hcs : Chg (One w.heap.size) wr ((wr.setCell ⟨w.heap.size, 0, none⟩ (.slice A s.size c)).setCell ⟨w.heap.size, 1, none⟩ (.int .i64 K)) := ((Chg.refl _ _).setOne 0 _).setOne 1 _
   refine bodyPost_ret (v := .agg #[.slice A s.size c, .int .i64 K]) (by simp [results, Tryz.results26, go_sem, r0, r1]) rfl ⟨A, c, rfl, ?_, hch.out.then hcs (fun j hj h => by unfold One at h; omega)⟩
   have ho := own_chg hown.out hcs (fun j hj h => by have := hofh.out j hj; unfold One at h; omega)
   rw [List.take_of_length_le (by rw [textC_len]; exact Nat.le_refl _)] at ho
   exact (RowAt.of_own ho).mono (fun j _ h => h.2)
end Go.Proofs.YtoelilejohfglaaGreat
namespace Go.Proofs.YtoelilejohfglaaGreat
open Go.RowKit
set_option linter.unusedVariables false
set_option linter.unusedSimpArgs false
attribute [local go_sem ↓] Go.wp_at_zero Go.wp_at_succ
theorem refSizeM (x : Cls) (w : World) : Calls Tryz.prog 131 #[.agg #[.int .u64 (wd x 0), .int .u64 (wd x 1), .int .u64 (wd x 2), .int .u64 (wd x 3)]] w fun e w' => e = .returned (.int .i64 (sizeC x)) ∧ Chg Nothing w w' := refSize_any x w
theorem size_zero (x : Cls) : decide ((sizeC x : Int) = 0) = decide (x = 0) := by
 apply decide_eq_decide.2
 constructor
 ·intro h
  have h0 : sizeC x = 0 := by omega
  unfold sizeC sizeTo at h0
  have h1 := List.eq_nil_of_length_eq_zero h0
  rw [List.filter_eq_nil_iff] at h1
  exact cls_ext fun i hi => by have := h1 i (by simpa using hi); simpa using this
 ·rintro rfl
  have : sizeC (0 : Cls) = 0 := by unfold sizeC sizeTo; rw [List.filter_eq_nil_iff.2 (by intro i _; simp)]; rfl
  omega
def RrInv (xs : List Cls) (n : Nat) (w : World) (iv : Value) (wr : World) : Prop := ∃ k : Nat, k ≤ n ∧ iv = .int .i64 k ∧ Hid (∀ j, j < k → xs.getD j 0 ≠ 0) ∧ Chg Nothing w wr
theorem refRight7_any (F : Nat → Prop) (A : Option Addr) (n c : Nat) (xs : List Cls) (K : Int) (w : World) (H : ClsRow F w A n c xs) (hl : xs.length = n) :
  Calls Tryz.prog 86 #[.agg #[.slice A n c, .int .i64 K]] w fun e w' => e = .returned (.bool (rightB xs K)) ∧ Chg Nothing w w' := by
 have hX := Blk.new w #[.slice A n c, .int .i64 K] 34
 have x0 := hX.cell 0 rfl
 have x1 := hX.cell 1 rfl
 have hlx := hX.lt
 clear hX
 have H1 := hid (fun w' (hc : Chg Nothing w w') => H.chg hc (fun _ _ _ h => h))
 have hlh := hid hl
 have hle := H.le
 have hmx := H.max
 have hrb : rightB xs K = decide (1 ≤ n ∧ n ≤ 64 ∧ (0 : Cls) ∉ xs ∧ 0 ≤ K ∧ K ≤ 64) := by unfold rightB; rw [hl]
 clear H hl
 have hcs : n < 1 ∨ (¬ n < 1 ∧ 64 < n) ∨ (¬ n < 1 ∧ ¬ 64 < n ∧ K < 0) ∨ (¬ n < 1 ∧ ¬ 64 < n ∧ ¬ K < 0 ∧ 64 < K) ∨ (¬ n < 1 ∧ ¬ 64 < n ∧ ¬ K < 0 ∧ ¬ 64 < K) := by omega
 rcases hcs with h | ⟨h, h2⟩ | ⟨h, h2, h3⟩ | ⟨h, h2, h3, h4⟩ | ⟨h, h2, h3, h4⟩
 ·have hE := hid (show rightB xs K = false from by rw [hrb, decide_eq_false_iff_not]; omega)
  rw [hE.out]
  have b1 : decide ((n : Int) < 1) = true := decide_eq_true (by omega)
  clear hrb h
  go_enter Tryz.func86, Tryz.ntmps86
  go_wp2
  go_ret
  exact ⟨rfl, (Chg.refl _ _).alloc _⟩
 ·have hE := hid (show rightB xs K = false from by rw [hrb, decide_eq_false_iff_not]; omega)
  rw [hE.out]
  have b1 : decide ((n : Int) < 1) = false := decide_eq_false (by omega)
  have b2 : decide ((64 : Int) < (n : Int)) = true := decide_eq_true (by omega)
  clear hrb h h2
  go_enter Tryz.func86, Tryz.ntmps86
  go_wp2
  go_ret
  exact ⟨rfl, (Chg.refl _ _).alloc _⟩
 ·have hE := hid (show rightB xs K = false from by rw [hrb, decide_eq_false_iff_not]; omega)
  rw [hE.out]
  have b1 : decide ((n : Int) < 1) = false := decide_eq_false (by omega)
  have b2 : decide ((64 : Int) < (n : Int)) = false := decide_eq_false (by omega)
  clear hrb h h2
  go_enter Tryz.func86, Tryz.ntmps86
  go_wp2
  go_ret
  exact ⟨rfl, (Chg.refl _ _).alloc _⟩
 ·have hE := hid (show rightB xs K = false from by rw [hrb, decide_eq_false_iff_not]; omega)
  rw [hE.out]
  have b1 : decide ((n : Int) < 1) = false := decide_eq_false (by omega)
  have b2 : decide ((64 : Int) < (n : Int)) = false := decide_eq_false (by omega)
  clear hrb h h2
  go_enter Tryz.func86, Tryz.ntmps86
  go_wp2
  go_ret
  exact ⟨rfl, (Chg.refl _ _).alloc _⟩
 ·have hrb2 := hid (show rightB xs K = decide ((0 : Cls) ∉ xs) from by rw [hrb]; apply decide_eq_decide.2; constructor; exact fun h => h.2.2.1; exact fun h => ⟨by omega, by omega, h, by omega, by omega⟩)
  have b1 : decide ((n : Int) < 1) = false := decide_eq_false (by omega)
  have b2 : decide ((64 : Int) < (n : Int)) = false := decide_eq_false (by omega)
  clear hrb h h2
  go_enter Tryz.func86, Tryz.ntmps86
  go_wp2_with fail
  go_loopw [3] (fun iv wr => RrInv xs n (w.alloc (.cells #[.slice A n c, .int .i64 K] 34)) iv wr) (fun iv _ => n - (intOf iv).toNat)
  case atStart => exact ⟨0, Nat.zero_le _, rfl, hid (fun j h => by omega), Chg.refl _ _⟩
  case round =>
   obtain ⟨k, hk, rfl, hnz, hchg⟩ := hrel
   have y0 := (hchg.cells.1 _ _ hlx).trans x0
   have hC0 := hid (((Chg.refl Nothing w).alloc (.cells #[.slice A n c, .int .i64 K] 34)).trans hchg)
   rcases Nat.lt_or_ge k n with hkn | hkn
   ·obtain ⟨g, o, rfl, -, hgl, c0, c1, c2, c3⟩ := ClsRow.four (H1.out _ hC0.out) hlh.out hkn
    obtain ⟨y, hy⟩ : ∃ y, y = xs.getD k 0 := ⟨_, rfl⟩
    have hmem := hid (show xs.getD k 0 ∈ xs from by
     have : k < xs.length := by rw [hlh.out]; exact hkn
     simp [this])
    rw [← hy] at c0 c1 c2 c3 hmem
    have hsz := hid (fun w => refSizeM y w)
    have hz := size_zero y
    have hk0 : (0 : Int) ≤ (k : Int) := by omega
    have hkn' : (k : Int) < (n : Int) := by omega
    by_cases hy0 : y = 0
    ·rw [decide_eq_true hy0] at hz
     have hb : (((sizeC y : Nat) : Int) == 0) = true := beq_iff_eq.2 (of_decide_eq_true hz)
     have hR := hid (show rightB xs K = false from by rw [hrb2.out, decide_eq_false_iff_not]; intro h; exact h (hy0 ▸ hmem.out))
     generalize sizeC y = sz at hsz hb
     replace hy := hid hy
     replace hy0 := hid hy0
     clear hz
     go_wp2_with fail
     refine (hsz.out _).mono ?_
     rintro e w6 ⟨rfl, hc⟩
     have hC6 := hid (hC0.out.trans hc)
     clear hc c0 c1 c2 c3 y0
     go_wp2
     go_ret
     exact ⟨by rw [hR.out]; rfl, hC6.out⟩
    ·rw [decide_eq_false hy0] at hz
     have hb : (((sizeC y : Nat) : Int) == 0) = false := beq_eq_false_iff_ne.2 (of_decide_eq_false hz)
     have hnz' := hid (show ∀ j, j < k + 1 → xs.getD j 0 ≠ 0 from fun j hj => by
      rcases Nat.lt_or_ge j k with h | h
      ·exact hnz.out j h
      ·have e : j = k := by omega
       rw [e, ← hy]; exact hy0)
     generalize sizeC y = sz at hsz hb
     replace hy := hid hy
     replace hy0 := hid hy0
     clear hz
     go_wp2_with fail
     refine (hsz.out _).mono ?_
     rintro e w6 ⟨rfl, hc⟩
     have hC6 := hid (hchg.trans hc)
     clear hc c0 c1 c2 c3 y0 hchg
     go_wp2
     go_roundw
     case rel => exact ⟨k + 1, hkn, by go_num, hnz', hC6.out⟩
     case measure => simp [intOf]; omega
   ·have hd : decide ((k : Int) < (n : Int)) = false := decide_eq_false (by omega)
    have hR := hid (show rightB xs K = true from by
     rw [hrb2.out, decide_eq_true_eq]
     intro h
     obtain ⟨j, hj, e⟩ := List.getElem_of_mem h
     rw [hlh.out] at hj
     exact hnz.out j (by omega) (by rw [List.getD_eq_getElem?_getD, List.getElem?_eq_getElem (by rw [hlh.out]; exact hj)]; exact e))
    go_wp2
    go_ret
    exact ⟨by rw [hR.out]; rfl, hC0.out⟩
end Go.Proofs.YtoelilejohfglaaGreat
