/- Joined texts: SplA WldA PlnA Cbk DelA DelB PrsA. -/
import Derived.Test.YtoelilejohfglaaGreatBunS
import Derived.Test.YtoelilejohfglaaGreatBunR
import Derived.Test.YtoelilejohfglaaGreatBunA
import Derived.Lib.SliceRun
import Derived.Deep.RegionHeld3
import Derived.Laws.EntriesVeiled
set_option maxHeartbeats 16000000
set_option maxRecDepth 100000
namespace Go.Proofs.YtoelilejohfglaaGreat
open Go.RowKit
set_option linter.unusedVariables false
set_option linter.unusedSimpArgs false
def rareN (xs : List Cls) (ks : List Cls) (s : ByteArray) (i : Nat) : Int := sumN xs.length (fun j => if xs.getD j 0 ∈ ks ∧ (xs.getD j 0).getLsbD (s.data[i + j]?.getD 0).toNat = true then 1 else 0)
theorem rareN_slides (xs : List Cls) (l : List Cls) (hl : l.Nodup) (s : ByteArray) (i : Nat) : sumL l (fun c => slideN xs.length (placeF xs c) (markF c s) i) = rareN xs l s i := by
 unfold slideN rareN
 rw [sumL_sumN]
 refine sumN_congr fun j hj => ?_
 have h4 := sumL_one hl (xs.getD j 0) (fun c => markF c s (i + j))
 unfold placeF
 rw [h4]
 by_cases hm : xs.getD j 0 ∈ l
 ·rw [if_pos hm]
  unfold markF
  by_cases h : (xs.getD j 0).getLsbD (s.data[i + j]?.getD 0).toNat = true
  ·rw [if_pos h, if_pos ⟨hm, h⟩]
  ·rw [if_neg h, if_neg (fun hh => h hh.2)]
 ·rw [if_neg hm, if_neg (fun hh => hm hh.1)]
theorem kindsL_nodup (xs : List Cls) : (kindsL xs).Nodup := (List.nodup_cons.1 (kindsTo_nodup xs xs.length)).2
theorem sumL_split {α : Type} (l : List α) (p : α → Bool) (f : α → Int) : sumL (l.filter p) f + sumL (l.filter fun x => !p x) f = sumL l f := by
 induction l with
 | nil => rfl
 | cons x l ih =>
  rw [sumL_cons]
  by_cases h : p x = true
  ·rw [List.filter_cons_of_pos h, List.filter_cons_of_neg (by simp [h]), sumL_cons]; omega
  ·rw [List.filter_cons_of_neg h, List.filter_cons_of_pos (by simpa using h), sumL_cons]; omega
def freqB (xs : List Cls) (least : Int) (c : Cls) : Bool := decide (least ≤ ((whereTo xs c xs.length).length : Int))
def freqL (xs : List Cls) (least : Int) : List Cls := (kindsL xs).filter (freqB xs least)
def rareL (xs : List Cls) (least : Int) : List Cls := (kindsL xs).filter fun c => !freqB xs least c
theorem freq_rare (xs : List Cls) (least : Int) (s : ByteArray) (i : Nat) : boundN xs - (rareN xs (rareL xs least) s i + sumL (freqL xs least) (fun c => slideN xs.length (placeF xs c) (markF c s) i)) = missN xs s i := by
 have h1 := sumL_split (kindsL xs) (freqB xs least) (fun c => slideN xs.length (placeF xs c) (markF c s) i)
 rw [kinds_law] at h1
 rw [← rareN_slides xs (rareL xs least) ((kindsL_nodup xs).filter _)]
 unfold rareL freqL
 omega
theorem rareN_bound (xs ks : List Cls) (s : ByteArray) (i : Nat) : 0 ≤ rareN xs ks s i ∧ rareN xs ks s i ≤ xs.length := by
 unfold rareN
 refine ⟨sumN_nonneg _ _ fun u _ => by split <;> omega, ?_⟩
 have := sumN_le xs.length (fun j => if xs.getD j 0 ∈ ks ∧ (xs.getD j 0).getLsbD (s.data[i + j]?.getD 0).toNat = true then (1 : Int) else 0) 1 (fun u _ => by split <;> omega)
 omega
theorem missN_left (xs : List Cls) (s t : ByteArray) (i : Nat) (h : i + xs.length ≤ s.size) : missN xs (s ++ t) i = missN xs s i := by
 unfold missN
 refine sumN_congr fun j hj => ?_
 rw [show (s ++ t).data[i + j]? = s.data[i + j]? from by
  rw [ByteArray.data_append, Array.getElem?_append_left (by show i + j < s.size; omega)]]
def valC (x : Cls) : Int := match singleC x with | some b => (b : Int) + 1 | none => 0
def valF (xs : List Cls) (j : Nat) : Int := valC (xs.getD j 0)
def bytF (s : ByteArray) (i : Nat) : Int := ((s.data[i]?.getD 0).toNat : Int) + 1
def plainB (xs : List Cls) : Bool := xs.all fun x => decide (sizeC x = 1) || decide (x = fullC)
theorem single_some {x : Cls} {b : Nat} (h : singleC x = some b) : b < 256 ∧ x = BitVec.twoPow 256 b := by
 by_cases h1 : sizeC x = 1
 ·obtain ⟨b', hb, rfl⟩ := sizeC_one h1
  rw [singleC_two b' hb] at h
  injection h with h
  subst h
  exact ⟨hb, rfl⟩
 ·rw [singleC_not h1] at h; cases h
theorem valC_bound (x : Cls) : 0 ≤ valC x ∧ valC x ≤ 256 := by
 unfold valC
 cases h : singleC x with
 | none => exact ⟨by decide, by decide⟩
 | some b =>
  have := (single_some h).1
  show 0 ≤ (b : Int) + 1 ∧ (b : Int) + 1 ≤ 256
  omega
theorem bytF_bound (s : ByteArray) (i : Nat) : 1 ≤ bytF s i ∧ bytF s i ≤ 256 := by
 have := byte_lt s i
 unfold bytF; omega
theorem full_size : sizeC fullC = 256 := (size_full fullC).2 rfl
def oneW (xs : List Cls) (s : ByteArray) (i j : Nat) : Int := valF xs j * ((valF xs j - bytF s (i + j)) * (valF xs j - bytF s (i + j)))
theorem oneW_zero {xs : List Cls} {s : ByteArray} {i j : Nat} (hj : j < xs.length) (hp : plainB xs = true) : 0 ≤ oneW xs s i j ∧ (oneW xs s i j = 0 ↔ (xs.getD j 0).getLsbD (s.data[i + j]?.getD 0).toNat = true) := by
 have hx := List.all_eq_true.1 hp (xs.getD j 0) (by rw [List.getD_eq_getElem?_getD, List.getElem?_eq_getElem hj]; exact List.getElem_mem _)
 simp only [Bool.or_eq_true, decide_eq_true_eq] at hx
 unfold oneW valF
 generalize xs.getD j 0 = x at hx ⊢
 have hbt := byte_lt s (i + j)
 have hbf := bytF_bound s (i + j)
 have hsq : ∀ a : Int, 0 ≤ a * a := fun a => by
  rcases Int.le_total 0 a with h | h
  ·exact Int.mul_nonneg h h
  ·have := Int.mul_nonneg (show 0 ≤ -a by omega) (show 0 ≤ -a by omega)
   rwa [Int.neg_mul_neg] at this
 refine ⟨Int.mul_nonneg (valC_bound x).1 (hsq _), ?_⟩
 rcases hx with hx | rfl
 ·obtain ⟨b, hb, rfl⟩ := sizeC_one hx
  have hv : valC (BitVec.twoPow 256 b) = (b : Int) + 1 := by unfold valC; rw [singleC_two b hb]
  rw [hv, BitVec.getLsbD_twoPow]
  unfold bytF
  generalize (s.data[i + j]?.getD 0).toNat = t at hbt
  constructor
  ·intro h
   rcases Int.mul_eq_zero.1 h with h | h
   ·omega
   ·rcases Int.mul_eq_zero.1 h with h | h
    ·simp; omega
    ·simp; omega
  ·intro h
   simp at h
   have : b = t := by omega
   subst this
   rw [Int.sub_self]; simp
 ·have hv : valC fullC = 0 := by
   unfold valC
   rw [singleC_not (by rw [full_size]; decide)]
  rw [hv, fullC_get hbt]
  simp
theorem sumN_zero_iff (n : Nat) (f : Nat → Int) (h : ∀ i, i < n → 0 ≤ f i) : sumN n f = 0 ↔ ∀ i, i < n → f i = 0 := by
 induction n with
 | zero => exact ⟨fun _ i hi => by omega, fun _ => rfl⟩
 | succ n ih =>
  have h1 := sumN_nonneg n f (fun i hi => h i (by omega))
  have h2 := h n (by omega)
  rw [sumN_succ]
  constructor
  ·intro hs i hi
   by_cases hin : i = n
   ·subst hin; omega
   ·exact (ih (fun i hi => h i (by omega))).1 (by omega) i (by omega)
  ·intro hz
   rw [(ih (fun i hi => h i (by omega))).2 (fun i hi => hz i (by omega)), hz n (by omega)]; rfl
def weightW (xs : List Cls) : Int := sumN xs.length (fun j => valF xs j * valF xs j * valF xs j)
def sumsW (xs : List Cls) (s : ByteArray) (i : Nat) : Int := weightW xs - 2 * slideN xs.length (fun j => valF xs j * valF xs j) (bytF s) i + slideN xs.length (valF xs) (fun q => bytF s q * bytF s q) i
theorem sumsW_eq (xs : List Cls) (s : ByteArray) (i : Nat) : sumsW xs s i = sumN xs.length (oneW xs s i) := by
 unfold sumsW weightW slideN
 rw [← sumN_mul]
 dsimp only
 have h1 := sumN_add xs.length (fun j => valF xs j * valF xs j * valF xs j) (fun j => valF xs j * (bytF s (i + j) * bytF s (i + j)))
 have h2 := sumN_add xs.length (oneW xs s i) (fun u => 2 * (valF xs u * valF xs u * bytF s (i + u)))
 have h3 : sumN xs.length (fun j => valF xs j * valF xs j * valF xs j + valF xs j * (bytF s (i + j) * bytF s (i + j))) = sumN xs.length (fun j => oneW xs s i j + 2 * (valF xs j * valF xs j * bytF s (i + j))) :=
  sumN_congr fun j _ => by unfold oneW; grind
 omega
theorem sumsW_zero (xs : List Cls) (s : ByteArray) (i : Nat) (hp : plainB xs = true) : 0 ≤ sumsW xs s i ∧ (sumsW xs s i = 0 ↔ missN xs s i = 0) := by
 rw [sumsW_eq]
 refine ⟨sumN_nonneg _ _ fun j hj => (oneW_zero hj hp).1, ?_⟩
 rw [sumN_zero_iff _ _ (fun j hj => (oneW_zero hj hp).1)]
 unfold missN
 rw [sumN_zero_iff _ _ (fun j hj => by split <;> omega)]
 constructor
 ·intro h j hj
  rw [if_pos ((oneW_zero hj hp).2.1 (h j hj))]
 ·intro h j hj
  refine (oneW_zero hj hp).2.2 (Classical.byContradiction fun hn => ?_)
  have := h j hj
  rw [if_neg hn] at this
  omega
theorem leafFree_any (x : Cls) (w : World) : Calls Tryz.prog 137 #[litC x] w fun e w' => e = .returned (.bool (decide (x = fullC))) ∧ Chg Nothing w w' := by
 have hX := Blk.new w (cellsC x) 84
 obtain ⟨r0, r1, r2, r3, -, -, -, -, hlt1⟩ := CBox.at_ (show CBox _ _ x from hX)
 have hc0 := hid ((Chg.refl Nothing w).alloc (.cells (cellsC x) 84))
 unfold cellsC at hc0 r0 r1 r2 r3 hlt1
 have hFu := hid (fun (nn : Calm (w.alloc (.cells #[.int .u64 (wd x 0), .int .u64 (wd x 1), .int .u64 (wd x 2), .int .u64 (wd x 3)] 84))) => classFullM nn.val)
 have hq := eq_class x fullC
 generalize decide (x = fullC) = b at hq ⊢
 unfold encC at hq
 clear hX
 go_enter Tryz.func137, Tryz.ntmps137
 go_wp2_with fail
 generalize w.alloc (.cells #[.int .u64 (wd x 0), .int .u64 (wd x 1), .int .u64 (wd x 2), .int .u64 (wd x 3)] 84) = W at *
 replace r0 := Calm.cell hlt1 r0
 replace r1 := Calm.cell hlt1 r1
 replace r2 := Calm.cell hlt1 r2
 replace r3 := Calm.cell hlt1 r3
 try simp only [List.append_eq, List.cons_append, List.nil_append]
 refine wp_region_calm_lit (by kernel_rfl) (by kernel_rfl) ?_
 repeat (go_big_quiet_step (((go_at_call 135; exact calm_of (hFu.out _)))))
 refine wpQuiet_nil ?_
 intro _ hw'
 obtain ⟨nq, hw''⟩ := hw'
 subst hw''
 go_wp2
 go_ret
 exact ⟨rfl, hc0.out.trans nq.chg⟩
theorem plainB_take (xs : List Cls) : plainB xs = decide (∀ j, j < xs.length → (sizeC (xs.getD j 0) = 1 ∨ xs.getD j 0 = fullC)) := by
 rw [Bool.eq_iff_iff, decide_eq_true_eq]
 unfold plainB
 rw [List.all_eq_true]
 constructor
 ·intro h j hj
  have := h (xs.getD j 0) (by rw [List.getD_eq_getElem?_getD, List.getElem?_eq_getElem hj]; exact List.getElem_mem _)
  simpa using this
 ·intro h x hx
  obtain ⟨j, hj, rfl⟩ := List.getElem_of_mem hx
  have := h j hj
  rw [List.getD_eq_getElem?_getD, List.getElem?_eq_getElem hj] at this
  simpa using this
theorem singleV_is (x : Cls) : ∃ b : Int, singleV x = #[.int .u8 b, .bool (decide (sizeC x = 1))] := by
 unfold singleV
 by_cases h : sizeC x = 1
 ·obtain ⟨b, hb, rfl⟩ := sizeC_one h
  rw [singleC_two b hb, decide_eq_true h]; exact ⟨_, rfl⟩
 ·rw [singleC_not h, decide_eq_false h]; exact ⟨_, rfl⟩
theorem classSingleM (x : Cls) (w : World) : Calls Tryz.prog 136 #[litC x] w fun e w' => (∃ b : Int, e = .returned (.tuple #[.int .u8 b, .bool (decide (sizeC x = 1))])) ∧ Chg Nothing w w' :=
 (show Calls Tryz.prog 136 #[litC x] w _ from classSingle_any x w).mono (fun e w' ⟨he, hc⟩ => by
  obtain ⟨b, hb⟩ := singleV_is x
  exact ⟨⟨b, by rw [he, hb]⟩, hc⟩)
def PlInv (xs : List Cls) (n : Nat) (w1 : World) (iv : Value) (wr : World) : Prop := ∃ k : Nat, k ≤ n ∧ iv = .int .i64 k ∧ Hid (∀ j, j < k → (sizeC (xs.getD j 0) = 1 ∨ xs.getD j 0 = fullC)) ∧ Chg Nothing w1 wr
theorem leafPlain_any (F : Nat → Prop) (A : Option Addr) (n c : Nat) (xs : List Cls) (K : Int) (w : World) (H : ClsRow F w A n c xs) (hl : xs.length = n) (hn9 : n ≤ 1000000000) :
  Calls Tryz.prog 101 #[.agg #[.slice A n c, .int .i64 K]] w fun e w' => e = .returned (.bool (plainB xs)) ∧ Chg Nothing w w' := by
 have HH := hid (fun (w' : World) (hc : Chg Nothing w w') => H.chg hc (fun _ _ _ h => h))
 have hlh := hid hl
 have hmx := H.max
 have hle := H.le
 have hX := Blk.new w #[.slice A n c, .int .i64 K] 34
 have x0 := hX.cell 0 (v := .slice A n c) rfl
 have hxl := hX.lt
 have hw0 := hid ((Chg.refl Nothing w).alloc (.cells #[.slice A n c, .int .i64 K] 34))
 clear H hl hX
 go_enter Tryz.func101, Tryz.ntmps101
 go_wp2_with fail
 generalize w.alloc (.cells #[.slice A n c, .int .i64 K] 34) = W at *
 go_loopw [10] (fun iv wr => PlInv xs n W iv wr) (fun iv _ => n - (intOf iv).toNat)
 case atStart => exact ⟨0, Nat.zero_le _, rfl, hid (fun j hj => by omega), Chg.refl _ _⟩
 case round =>
  obtain ⟨k, hk, rfl, hall, hchg⟩ := hrel
  rcases Nat.lt_or_ge k n with hkn | hkn
  ·obtain ⟨g, o, rfl, -, hgl, c0, c1', c2, c3⟩ := ClsRow.four (HH.out _ (hw0.out.trans hchg)) hlh.out hkn
   have hk0 : (0 : Int) ≤ (k : Int) := by omega
   have hkI : (k : Int) < (n : Int) := by omega
   obtain ⟨y, hyd⟩ : ∃ y, y = xs.getD k 0 := ⟨_, rfl⟩
   rw [← hyd] at c0 c1' c2 c3
   replace hyd := hid hyd
   have hz := Blk.new wr #[.int .u64 0, .int .u64 0, .int .u64 0, .int .u64 0] 84
   have hZ := hid hz
   have hCr := hid hchg
   clear hz hchg
   go_wp2_with (with_reducible refine halt_op (.store 84 (.tmp 4) (.tmp 13)) ?_)
   unfold Halted
   refine store_blk rfl 84 (.tmp 4) (.tmp 13) (by rfl) _ (by rfl) _ (by rfl) hZ.out (by rfl) (by exact sizeCls) (by rfl) ?_
   intro w3 hB3 hc3
   have hcz := hid (((Chg.refl Nothing wr).alloc (.cells #[.int .u64 0, .int .u64 0, .int .u64 0, .int .u64 0] 84)).then hc3 (fun i hi h => absurd (show i = wr.heap.size from h) (by omega)))
   have hC3 := hid (hCr.out.trans hcz.out)
   obtain ⟨r0, r1, r2, r3, -, -, -, -, hlt1⟩ := CBox.at_ (show CBox w3 wr.heap.size y from hB3)
   have hB3h := hid (show CBox w3 wr.heap.size y from hB3)
   clear hB3 hc3 hZ hcz hCr c0 c1' c2 c3
   have hnx := hid (fun (h : sizeC y = 1 ∨ y = fullC) => (show ∀ j, j < k + 1 → (sizeC (xs.getD j 0) = 1 ∨ xs.getD j 0 = fullC) from fun j hj => by
    by_cases hjk : j = k
    ·subst hjk; rw [← hyd.out]; exact h
    ·exact hall.out j (by omega)))
   have hSi := hid (fun w => classSingleM y w)
   have hFr := hid (fun w => leafFree_any y w)
   have hbad := hid (fun (h : ¬ (sizeC y = 1 ∨ y = fullC)) => (show plainB xs = false from by
    rw [plainB_take, decide_eq_false_iff_not]
    intro hh
    exact h (hyd.out ▸ hh k (by rw [hlh.out]; exact hkn))))
   by_cases h1 : sizeC y = 1
   ·rw [decide_eq_true h1] at hSi
    have hnx2 := hid (hnx.out (.inl h1))
    clear h1
    go_wp2_with fail
    refine (hSi.out _).mono ?_
    rintro e w4 ⟨⟨b, rfl⟩, hc4⟩
    have hC4 := hid (hC3.out.trans hc4)
    clear r0 r1 r2 r3 hc4
    go_wp2
    go_roundw
    case rel => exact ⟨k + 1, hkn, by go_num, hnx2, hC4.out⟩
    case measure => simp [intOf]; omega
   ·rw [decide_eq_false h1] at hSi
    by_cases h2 : y = fullC
    ·rw [decide_eq_true h2] at hFr
     have hnx2 := hid (hnx.out (.inr h2))
     clear h1
     replace h2 := hid h2
     go_wp2_with fail
     refine (hSi.out _).mono ?_
     rintro e w4 ⟨⟨b, rfl⟩, hc4⟩
     have hC4 := hid (hC3.out.trans hc4)
     obtain ⟨s0, s1, s2, s3, -, -, -, -, hlt2⟩ := CBox.at_ (show CBox w4 wr.heap.size y from hB3h.out.chg hc4 id)
     clear r0 r1 r2 r3 hc4
     go_wp2_with fail
     refine (hFr.out _).mono ?_
     rintro e w5 ⟨rfl, hc5⟩
     have hC5 := hid (hC4.out.trans hc5)
     clear s0 s1 s2 s3 hc5
     go_wp2
     go_roundw
     case rel => exact ⟨k + 1, hkn, by go_num, hnx2, hC5.out⟩
     case measure => simp [intOf]; omega
    ·rw [decide_eq_false h2] at hFr
     have hb := hid (hbad.out (by rintro (h | h); exact h1 h; exact h2 h))
     clear h1
     replace h2 := hid h2
     go_wp2_with fail
     refine (hSi.out _).mono ?_
     rintro e w4 ⟨⟨b, rfl⟩, hc4⟩
     have hC4 := hid (hC3.out.trans hc4)
     obtain ⟨s0, s1, s2, s3, -, -, -, -, hlt2⟩ := CBox.at_ (show CBox w4 wr.heap.size y from hB3h.out.chg hc4 id)
     clear r0 r1 r2 r3 hc4
     go_wp2_with fail
     refine (hFr.out _).mono ?_
     rintro e w5 ⟨rfl, hc5⟩
     have hC5 := hid (hw0.out.trans (hC4.out.trans hc5))
     clear s0 s1 s2 s3 hc5
     go_wp2
     go_ret
     exact ⟨by rw [hb.out]; rfl, hC5.out⟩
  ·obtain rfl : n = k := by omega
   have hd : decide ((n : Int) < (n : Int)) = false := decide_eq_false (by omega)
   have hb := hid (show plainB xs = true from by rw [plainB_take, decide_eq_true_eq, hlh.out]; exact hall.out)
   have hCr := hid (hw0.out.trans hchg)
   clear hchg hall
   go_wp2
   go_ret
   exact ⟨by rw [hb.out]; rfl, hCr.out⟩
theorem refPlain_any (F : Nat → Prop) (A : Option Addr) (n c : Nat) (xs : List Cls) (K : Int) (w : World) (H : ClsRow F w A n c xs) (hl : xs.length = n) (hn9 : n ≤ 1000000000) :
  Calls Tryz.prog 108 #[.agg #[.slice A n c, .int .i64 K]] w fun e w' => e = .returned (.bool (plainB xs)) ∧ Chg Nothing w w' := by
 have HH := hid (fun (w' : World) (hc : Chg Nothing w w') => H.chg hc (fun _ _ _ h => h))
 have hlh := hid hl
 have hmx := H.max
 have hle := H.le
 have hX := Blk.new w #[.slice A n c, .int .i64 K] 34
 have hw0 := hid ((Chg.refl Nothing w).alloc (.cells #[.slice A n c, .int .i64 K] 34))
 have hXh := hid hX
 clear H hl hX
 go_enter Tryz.func108, Tryz.ntmps108
 go_wp2_with fail
 generalize w.alloc (.cells #[.slice A n c, .int .i64 K] 34) = W at *
 go_loopw [3] (fun iv wr => PlInv xs n W iv wr) (fun iv _ => n - (intOf iv).toNat)
 case atStart => exact ⟨0, Nat.zero_le _, rfl, hid (fun j hj => by omega), Chg.refl _ _⟩
 case round =>
  obtain ⟨k, hk, rfl, hall, hchg⟩ := hrel
  have hXr := hXh.out.chg hchg id
  have x0 := hXr.cell 0 (v := .slice A n c) rfl
  have hxl := hXr.lt
  rcases Nat.lt_or_ge k n with hkn | hkn
  ·obtain ⟨g, o, rfl, -, hgl, c0, c1', c2, c3⟩ := ClsRow.four (HH.out _ (hw0.out.trans hchg)) hlh.out hkn
   have hk0 : (0 : Int) ≤ (k : Int) := by omega
   have hkI : (k : Int) < (n : Int) := by omega
   obtain ⟨y, hyd⟩ : ∃ y, y = xs.getD k 0 := ⟨_, rfl⟩
   rw [← hyd] at c0 c1' c2 c3
   replace hyd := hid hyd
   have hCr := hid hchg
   have hXq := hid hXr
   clear hchg hXr
   have hnx := hid (fun (h : sizeC y = 1 ∨ y = fullC) => (show ∀ j, j < k + 1 → (sizeC (xs.getD j 0) = 1 ∨ xs.getD j 0 = fullC) from fun j hj => by
    by_cases hjk : j = k
    ·subst hjk; rw [← hyd.out]; exact h
    ·exact hall.out j (by omega)))
   have hSi := hid (fun w => (show Calls Tryz.prog 131 #[litC y] w fun e w' => e = .returned (.int .i64 (sizeC y)) ∧ Chg Nothing w w' from refSize_any y w))
   have hFr := hid (fun w => (show Calls Tryz.prog 130 #[litC y] w fun e w' => e = .returned (.bool (decide (y = fullC))) ∧ Chg Nothing w w' from refFree_any y w))
   have hbad := hid (fun (h : ¬ (sizeC y = 1 ∨ y = fullC)) => (show plainB xs = false from by
    rw [plainB_take, decide_eq_false_iff_not]
    intro hh
    exact h (hyd.out ▸ hh k (by rw [hlh.out]; exact hkn))))
   obtain ⟨sz, hsz⟩ : ∃ sz, sz = sizeC y := ⟨_, rfl⟩
   have hszb : sz ≤ 256 := by rw [hsz]; exact sizeTo_le y 256
   rw [← hsz] at hSi hnx hbad
   clear hsz
   by_cases h1 : sz = 1
   ·subst h1
    have hnx2 := hid (hnx.out (.inl rfl))
    go_wp2_with fail
    refine (hSi.out _).mono ?_
    rintro e w4 ⟨rfl, hc4⟩
    have hC4 := hid (hCr.out.trans hc4)
    clear c0 c1' c2 c3 x0 hc4
    go_wp2
    go_roundw
    case rel => exact ⟨k + 1, hkn, by go_num, hnx2, hC4.out⟩
    case measure => simp [intOf]; omega
   ·have h1b : ((sz : Int) == 1) = false := beq_eq_false_iff_ne.2 (by omega)
    go_wp2_with fail
    refine (hSi.out _).mono ?_
    rintro e w4 ⟨rfl, hc4⟩
    have hC4 := hid (hCr.out.trans hc4)
    have d0 := (hc4.cells.1 _ _ hgl).trans c0
    have d1 := (hc4.cells.1 _ _ hgl).trans c1'
    have d2 := (hc4.cells.1 _ _ hgl).trans c2
    have d3 := (hc4.cells.1 _ _ hgl).trans c3
    have z0 := (hc4.cells.1 _ _ hxl).trans x0
    clear c0 c1' c2 c3 x0 hc4
    by_cases h2 : y = fullC
    ·rw [decide_eq_true h2] at hFr
     have hnx2 := hid (hnx.out (.inr h2))
     replace h2 := hid h2
     go_wp2_with fail
     refine (hFr.out _).mono ?_
     rintro e w5 ⟨rfl, hc5⟩
     have hC5 := hid (hC4.out.trans hc5)
     clear d0 d1 d2 d3 z0 hc5
     go_wp2
     go_roundw
     case rel => exact ⟨k + 1, hkn, by go_num, hnx2, hC5.out⟩
     case measure => simp [intOf]; omega
    ·rw [decide_eq_false h2] at hFr
     have hb := hid (hbad.out (by rintro (h | h); exact h1 h; exact h2 h))
     replace h2 := hid h2
     go_wp2_with fail
     refine (hFr.out _).mono ?_
     rintro e w5 ⟨rfl, hc5⟩
     have hC5 := hid (hw0.out.trans (hC4.out.trans hc5))
     clear d0 d1 d2 d3 z0 hc5
     go_wp2
     go_ret
     exact ⟨by rw [hb.out]; rfl, hC5.out⟩
  ·obtain rfl : n = k := by omega
   have hd : decide ((n : Int) < (n : Int)) = false := decide_eq_false (by omega)
   have hb := hid (show plainB xs = true from by rw [plainB_take, decide_eq_true_eq, hlh.out]; exact hall.out)
   have hCr := hid (hw0.out.trans hchg)
   clear hchg hall hXr
   go_wp2
   go_ret
   exact ⟨by rw [hb.out]; rfl, hCr.out⟩
theorem splice_list (vs : List Value) (A : Array Value) (o : Nat) (h : o + vs.length ≤ A.size) : (splice A o vs).toList = A.toList.take o ++ vs ++ A.toList.drop (o + vs.length) := by
 apply List.ext_getElem?
 intro i
 rw [Array.getElem?_toList, splice_get vs A o i h]
 by_cases h1 : i < o
 ·rw [if_neg (by omega), List.append_assoc, List.getElem?_append_left (by simp; omega), List.getElem?_take, if_pos h1, Array.getElem?_toList]
 ·by_cases h2 : i < o + vs.length
  ·rw [if_pos (by omega), List.append_assoc, List.getElem?_append_right (by simp; omega)]
   rw [show (A.toList.take o).length = o from by simp; omega, List.getElem?_append_left (by omega)]
  ·rw [if_neg (by omega), List.getElem?_append_right (by simp; omega)]
   rw [show (A.toList.take o ++ vs).length = o + vs.length from by simp; omega, List.getElem?_drop, Array.getElem?_toList]
   congr 1; omega
theorem flat_take {α : Type} (f : α → List Value) (sz : Nat) (hf : ∀ x, (f x).length = sz) : ∀ (xs : List α) (k : Nat), (xs.flatMap f).take (k * sz) = (xs.take k).flatMap f
 | [], k => by simp
 | x :: xs, 0 => by simp
 | x :: xs, k + 1 => by
  rw [List.flatMap_cons, List.take_succ_cons, List.flatMap_cons, List.take_append, hf, List.take_of_length_le (by rw [hf, Nat.add_mul]; omega), show (k + 1) * sz - sz = k * sz from by rw [Nat.add_mul]; omega, flat_take f sz hf xs k]
theorem flat_drop {α : Type} (f : α → List Value) (sz : Nat) (hf : ∀ x, (f x).length = sz) : ∀ (xs : List α) (k : Nat), (xs.flatMap f).drop (k * sz) = (xs.drop k).flatMap f
 | [], k => by simp
 | x :: xs, 0 => by simp
 | x :: xs, k + 1 => by
  rw [List.flatMap_cons, List.drop_succ_cons, List.drop_append, hf, List.drop_eq_nil_of_le (by rw [hf, Nat.add_mul]; omega), show (k + 1) * sz - sz = k * sz from by rw [Nat.add_mul]; omega, flat_drop f sz hf xs k, List.nil_append]
def CBlk (w : World) (g c : Nat) (ys : List Cls) (rest : List Value) : Prop := Blk w g ((ys.flatMap clsL ++ rest).toArray) 84 ∧ ys.length * 4 + rest.length = c * 4
theorem clsL_len4 (x : Cls) : (clsL x).length = 4 := rfl
theorem CBlk.lt {w : World} {g c : Nat} {ys : List Cls} {rest : List Value} (h : CBlk w g c ys rest) : g < w.heap.size := h.1.lt
theorem CBlk.chg {S : Nat → Prop} {w w' : World} {g c : Nat} {ys : List Cls} {rest : List Value} (h : CBlk w g c ys rest) (hc : Chg S w w') (hn : ¬ S g) : CBlk w' g c ys rest := ⟨h.1.chg hc hn, h.2⟩
theorem CRow.blk {w : World} {base n c : Nat} {A : Option Addr} {ys : List Cls} (h : CRow w base A n c ys) (hn : 0 < n) : ∃ g rest, A = some ⟨g, 0, none⟩ ∧ base ≤ g ∧ CBlk w g c ys rest ∧ ys.length = n ∧ n ≤ c ∧ c ≤ 9223372036854775807 := by
 have hl := h.1
 rw [flat_len clsL 4 clsL_len4] at hl
 have hyl : ys.length = n := by omega
 rcases h.2 with ⟨e1, h0⟩ | ⟨g, cap, cur, e1, hb, hg, hnc, hcm, hsz, hcur⟩
 ·omega
 ·injection e1 with e1 e2 e3
  subst e1 e3
  have hct : cur.toList.take (n * 4) = ys.flatMap clsL := hcur
  refine ⟨g, cur.toList.drop (n * 4), rfl, hb, ⟨?_, ?_⟩, hyl, hnc, by unfold maxLen at hcm; omega⟩
  ·rw [← hct, List.take_append_drop]
   simpa [Blk] using hg
  ·have e4 : (cur.toList.drop (n * 4)).length = cur.size - n * 4 := by simp
   have : n * 4 ≤ c * 4 := Nat.mul_le_mul_right 4 hnc
   rw [e4, hsz]; omega
theorem CBlk.row {w : World} {base g c : Nat} {ys : List Cls} {rest : List Value} (h : CBlk w g c ys rest) (hb : base ≤ g) (n : Nat) (hn : n ≤ ys.length) (hc : c ≤ 9223372036854775807) : CRow w base (some ⟨g, 0, none⟩) n c (ys.take n) := by
 have h2 := h.2
 refine ⟨by rw [flat_len clsL 4 clsL_len4, List.length_take]; omega, .inr ⟨g, c, _, rfl, hb, h.1, by omega, by unfold maxLen; omega, ?_, ?_⟩⟩
 ·simp only [List.size_toArray, List.length_append, flat_len clsL 4 clsL_len4]; omega
 ·show ((ys.flatMap clsL ++ rest).toArray).toList.take (n * 4) = _
  rw [List.toList_toArray, List.take_append_of_le_length (by rw [flat_len clsL 4 clsL_len4]; omega), flat_take clsL 4 clsL_len4]
theorem CBlk.splc {w w' : World} {g c i : Nat} {ys zs : List Cls} {rest : List Value} (h : CBlk w g c ys rest) (hi : i + zs.length ≤ ys.length) (hs : Blk w' g (splice ((ys.flatMap clsL ++ rest).toArray) (i * 4) (zs.flatMap clsL)) 84) : CBlk w' g c (ys.take i ++ zs ++ ys.drop (i + zs.length)) rest := by
 have e : splice ((ys.flatMap clsL ++ rest).toArray) (i * 4) (zs.flatMap clsL) = ((ys.take i ++ zs ++ ys.drop (i + zs.length)).flatMap clsL ++ rest).toArray := by
  apply Array.ext'
  have hz := flat_len clsL 4 clsL_len4 zs
  have hy := flat_len clsL 4 clsL_len4 ys
  rw [splice_list _ _ _ (by simp only [List.size_toArray, List.length_append, hz, hy]; omega)]
  show (ys.flatMap clsL ++ rest).take _ ++ _ ++ (ys.flatMap clsL ++ rest).drop _ = _
  rw [List.take_append_of_le_length (by rw [hy]; omega), List.drop_append_of_le_length (by rw [hy, hz]; omega), flat_take clsL 4 clsL_len4, hz, show i * 4 + zs.length * 4 = (i + zs.length) * 4 from by omega, flat_drop clsL 4 clsL_len4]
  simp [List.flatMap_append]
 rw [e] at hs
 refine ⟨hs, ?_⟩
 have := h.2
 simp only [List.length_append, List.length_take, List.length_drop]
 omega
theorem CBlk.set {w w' : World} {g c i : Nat} {ys : List Cls} {rest : List Value} (h : CBlk w g c ys rest) (hi : i < ys.length) (v : Cls) (hs : Blk w' g (splice ((ys.flatMap clsL ++ rest).toArray) (i * 4) (clsL v)) 84) : CBlk w' g c (ys.set i v) rest := by
 have h1 := h.splc (w' := w') (i := i) (zs := [v]) (by simp; omega) (by rw [show [v].flatMap clsL = clsL v from by simp]; exact hs)
 rwa [show ys.take i ++ [v] ++ ys.drop (i + [v].length) = ys.set i v from by rw [List.set_eq_take_append_cons_drop, if_pos hi]; simp] at h1
theorem CBlk.cells {w : World} {g c i : Nat} {ys : List Cls} {rest : List Value} (h : CBlk w g c ys rest) (hi : i < ys.length) (j : Nat) (hj : j < 4) : w.cell? ⟨g, i * 4 + j, none⟩ = some ((clsL (ys.getD i 0)).getD j undef) ∧ w.frozen? ⟨g, i * 4 + j, none⟩ = false := by
 refine ⟨h.1.cell _ ?_, h.1.free _⟩
 have hy := flat_len clsL 4 clsL_len4 ys
 have h1 := flat_getD clsL 4 clsL_len4 0 ys i j hi hj
 rw [← h1, List.getElem?_toArray, List.getElem?_append_left (by rw [hy]; omega), List.getD_eq_getElem?_getD, List.getElem?_eq_getElem (by rw [hy]; omega)]
 rfl
theorem run_clear_cls {w : World} {g c i : Nat} {ys : List Cls} {rest : List Value} (h : CBlk w g c ys rest) (hi : i ≤ ys.length) (n c2 : Nat) (A : Option Addr) (hn : n = ys.length - i) (hA : 0 < n → A = some ⟨g, i * 4, none⟩) :
  ∃ w', (∀ ty, (Builtin.clear_ #[32] ty #[.slice A n c2]).run Tryz.prog w = .ok (.tuple #[]) w') ∧ (∃ zs, CBlk w' g c (ys.take i ++ zs) rest ∧ zs.length = ys.length - i) ∧ Chg (One g) w w' := by
 by_cases h0 : n = 0
 ·subst h0
  refine ⟨w, fun ty => ?_, ⟨ys.drop i, by rw [List.take_append_drop]; exact h, by simp⟩, Chg.refl _ _⟩
  cases A <;> simp [Builtin.clear_, run_underlying Tryz.underlying32]
 ·obtain rfl := hA (by omega)
  have hzv : ∀ w, (zeroValue 84).run Tryz.prog w = .ok (.agg #[.int .u64 0, .int .u64 0, .int .u64 0, .int .u64 0]) w := fun w => by kernel_rfl
  have hzl : clsL 0 = [.int .u64 0, .int .u64 0, .int .u64 0, .int .u64 0] := by unfold clsL; simp only [wd_zero]
  have hzc : (Builtin.zeroCells (Value.agg #[.int .u64 0, .int .u64 0, .int .u64 0, .int .u64 0]).cells n).toList = (List.replicate n (0 : Cls)).flatMap clsL := by
   apply List.ext_getElem
   ·simp [Builtin.zeroCells, Value.cells, flat_len clsL 4 clsL_len4]
   ·intro q h1 h2
    have e1 : ((List.replicate n (0 : Cls)).flatMap clsL)[q] = .int .u64 0 := by
     have hm := List.getElem_mem h2
     rw [List.mem_flatMap] at hm
     obtain ⟨x, hx, hq⟩ := hm
     rw [List.eq_of_mem_replicate hx, hzl] at hq
     simpa using hq
    rw [e1]
    simp [Builtin.zeroCells, Value.cells]
    have : q % 4 = 0 ∨ q % 4 = 1 ∨ q % 4 = 2 ∨ q % 4 = 3 := by omega
    rcases this with h | h | h | h <;> simp [h]
  have hfl : ((List.replicate n (0 : Cls)).flatMap clsL).length = n * 4 := by rw [flat_len clsL 4 clsL_len4]; simp
  have hyl := flat_len clsL 4 clsL_len4 ys
  have hst := run_storeCells_cells (P := Tryz.prog) g (i * 4) ((List.replicate n (0 : Cls)).flatMap clsL) 0 w (fun j hj => by
   have hlt : i * 4 + j < (ys.flatMap clsL ++ rest).length := by rw [List.length_append, hyl]; omega
   rw [Nat.add_zero, h.1.cell (i * 4 + j) (by rw [List.getElem?_toArray, List.getElem?_eq_getElem hlt])]
   rfl) (fun j hj => h.1.free _) (by
   intro v hv
   rw [List.mem_flatMap] at hv
   obtain ⟨x, -, hx⟩ := hv
   exact clsL_one x v hx)
  simp only [Nat.add_zero] at hst
  obtain ⟨m, rfl⟩ : ∃ m, n = m + 1 := ⟨n - 1, by omega⟩
  refine ⟨w.setCells g (i * 4) ((List.replicate (m + 1) (0 : Cls)).flatMap clsL), fun ty => ?_, ⟨List.replicate (m + 1) 0, ?_, by simp; omega⟩, Chg.setCells _ _ _ _ (Chg.refl _ _) (fun _ => rfl)⟩
  ·generalize (List.replicate (m + 1) (0 : Cls)).flatMap clsL = zl at hzc hst
   simp [Builtin.clear_, run_underlying Tryz.underlying32, hzv, hzc, hst]
  ·have h1 := h.splc (w' := w.setCells g (i * 4) ((List.replicate (m + 1) (0 : Cls)).flatMap clsL)) (i := i) (zs := List.replicate (m + 1) 0) (by simp; omega) (Blk.setCells _ _ _ _ h.1)
   rwa [List.drop_eq_nil_of_le (by simp; omega), List.append_nil] at h1
theorem elemCl : Tryz.prog.underlying 32 = some (.slice (Tryz.prog.elem 32)) := by kernel_rfl
theorem sizeCl : ∀ w, (sizeOf (Tryz.prog.elem 32)).run Tryz.prog w = .ok 4 w := fun w => by kernel_rfl
theorem clsClone_any (F : Nat → Prop) (A : Option Addr) (n c : Nat) (xs : List Cls) (w : World) (H : ClsRow F w A n c xs) (hl : xs.length = n) (hn9 : n ≤ 1000000000) :
  Calls Tryz.prog 175 #[.slice A n c] w fun e w' => ∃ A' c', e = .returned (.slice A' n c') ∧ CRow w' w.heap.size A' n c' xs ∧ Chg Nothing w w' := by
 have hle := H.le
 have hmx := H.max
 have hnl := H.nil
 have hnw := hid (rowAt_news (H.chg ((Chg.refl Nothing w).alloc (.cells #[] 84)) (fun _ _ _ h => h)))
 have hfl := hid (flat_len clsL 4 clsL_len4 xs)
 have hlh := hid hl
 cases A with
 | none =>
  have hc0 : c = 0 := hnl rfl
  subst hc0
  have hn0 : n = 0 := by omega
  subst hn0
  have hx0 : xs = [] := List.eq_nil_of_length_eq_zero hl
  subst hx0
  have hq : ∀ w, (binOp .eql 32 (.slice none 0 0) (.slice none 0 0)).run Tryz.prog w = .ok (.bool true) w := fun w => Go.Lib.run_eql_slice_nil (P := Tryz.prog) w 32 _ none 0 0 0 0 Tryz.underlying32
  clear H hl
  go_enter Tryz.func175, Tryz.ntmps175
  go_wp2
  go_ret
  exact ⟨none, 0, rfl, World.ownsRow_nil _ _ _ _, Chg.refl _ _⟩
 | some ad =>
  have hown : (w.alloc (.cells #[] 84)).ownsRow w.heap.size 84 4 (.slice (some ⟨w.heap.size, 0, none⟩) 0 0) 0 [] := ⟨rfl, .inr ⟨w.heap.size, 0, #[], rfl, Nat.le_refl _, heap_alloc_new w _, Nat.le_refl _, by unfold maxLen; omega, rfl, rfl⟩⟩
  have hq : ∀ w, (binOp .eql 32 (.slice (some ad) n c) (.slice none 0 0)).run Tryz.prog w = .ok (.bool false) w := fun w => Go.Lib.run_eql_slice_nil (P := Tryz.prog) w 32 _ (some ad) n c 0 0 Tryz.underlying32
  clear H hl
  go_enter Tryz.func175, Tryz.ntmps175
  go_wp2_with (at_builtin; refine append_gen rfl _ _ 32 rfl w.heap.size 84 (.agg #[.int .u64 0, .int .u64 0, .int .u64 0, .int .u64 0]) 4 32 Tryz.underlying32 infoCl rfl (by decide) (some ⟨w.heap.size, 0, none⟩) 0 0 _ rfl hown (some ad) n c (xs.flatMap clsL) rfl (by rw [hfl.out, hlh.out]) (fun e => by cases e) hle hnw.out (flat_one clsL clsL_one xs) ?_ ?_ ?_ ?_)
  ·unfold maxLen; omega
  ·omega
  ·rw [World.size_alloc]; omega
  intro A' c' w6 hown6 hc6 hA6
  have hO6 := hid hown6
  have hC6 := hid (((Chg.refl Nothing w).alloc (.cells #[] 84)).then hc6 (fun i hi h => by obtain ⟨a, e, hk⟩ := h; injection e with e; subst e; simp only at hk; omega))
  clear hown6 hc6 hA6
  go_wp2
  go_ret
  exact ⟨A', c', rfl, hO6.out, hC6.out⟩
def IfAns1 (p : Cls → Bool) (ks : List Cls) (r : Int) : Prop := (r = -1 ∧ ∀ x ∈ ks, p x = false) ∨ ∃ k : Nat, k < ks.length ∧ r = k ∧ p (ks.getD k 0) = true ∧ ∀ j, j < k → p (ks.getD j 0) = false
def IfInv1 (p : Cls → Bool) (ks : List Cls) (n : Nat) (w : World) (iv : Value) (wr : World) : Prop := ∃ k : Nat, k ≤ n ∧ iv = .int .i64 k ∧ Hid (∀ j, j < k → p (ks.getD j 0) = false) ∧ Chg Nothing w wr
theorem indexF1_any (F : Nat → Prop) (A : Option Addr) (n c : Nat) (ks : List Cls) (p : Cls → Bool) (q1 q2 : Nat) (w : World) (H : ClsRow F w A n c ks) (hl : ks.length = n)
  (hcl : ∀ (x : Cls) (W : World), Chg Nothing w W → Calls Tryz.prog 172 #[litC x, .pointer (some ⟨q1, 0, none⟩), .pointer (some ⟨q2, 0, none⟩)] W fun e w' => e = .returned (.bool (p x)) ∧ Chg Nothing W w') :
  Calls Tryz.prog 190 #[.slice A n c, .func (.func 172) #[] #[.pointer (some ⟨q1, 0, none⟩), .pointer (some ⟨q2, 0, none⟩)]] w fun e w' => ∃ r : Int, e = .returned (.int .i64 r) ∧ IfAns1 p ks r ∧ Chg Nothing w w' := by
 have HH := hid (fun (w' : World) (hc : Chg Nothing w w') => H.chg hc (fun _ _ _ h => h))
 have hlh := hid hl
 have hmx := H.max
 have hle := H.le
 have hcl := hid hcl
 clear H hl
 go_enter Tryz.func190, Tryz.ntmps190
 go_wp2_with fail
 go_loopw [8] (fun iv wr => IfInv1 p ks n w iv wr) (fun iv _ => n - (intOf iv).toNat)
 case atStart => exact ⟨0, Nat.zero_le _, rfl, hid (fun j h => by omega), Chg.refl _ _⟩
 case round =>
  obtain ⟨k, hk, rfl, hall, hchg⟩ := hrel
  rcases Nat.lt_or_ge k n with hkn | hkn
  ·obtain ⟨g, o, rfl, -, hgl, c0, c1, c2, c3⟩ := ClsRow.four (HH.out _ hchg) hlh.out hkn
   have hk0 : (0 : Int) ≤ (k : Int) := by omega
   have hkn' : (k : Int) < (n : Int) := by omega
   obtain ⟨y, hy⟩ : ∃ y, y = ks.getD k 0 := ⟨_, rfl⟩
   rw [← hy] at c0 c1 c2 c3
   replace hy := hid hy
   have hc := hid (hcl.out y wr hchg)
   have hCr := hid hchg
   obtain ⟨b, hb⟩ : ∃ b, b = p y := ⟨_, rfl⟩
   rw [← hb] at hc
   replace hb := hid hb
   clear hchg
   go_wp2_with fail
   refine hc.out.mono ?_
   rintro e w2 ⟨rfl, hc2⟩
   have hC2 := hid (hCr.out.trans hc2)
   clear hc2 c0 c1 c2 c3
   cases b with
   | true =>
    have hans := hid (show IfAns1 p ks (k : Int) from .inr ⟨k, by rw [hlh.out]; exact hkn, rfl, by rw [← hy.out, ← hb.out], hall.out⟩)
    go_wp2
    go_ret
    exact ⟨_, rfl, hans.out, hC2.out⟩
   | false =>
    have hnx := hid (show ∀ j, j < k + 1 → p (ks.getD j 0) = false from fun j hj => by
     by_cases hjk : j = k
     ·subst hjk; rw [← hy.out, ← hb.out]
     ·exact hall.out j (by omega))
    go_wp2
    go_roundw
    case rel => exact ⟨k + 1, hkn, by go_num, hnx, hC2.out⟩
    case measure => simp [intOf]; omega
  ·obtain rfl : n = k := by omega
   have hd : decide ((n : Int) < (n : Int)) = false := decide_eq_false (by omega)
   have hans := hid (show IfAns1 p ks (-1) from .inl ⟨rfl, fun x hx => by
    obtain ⟨j, hj, rfl⟩ := List.getElem_of_mem hx
    have := hall.out j (by rw [← hlh.out]; exact hj)
    rwa [List.getD_eq_getElem?_getD, List.getElem?_eq_getElem hj] at this⟩)
   have hCr := hid hchg
   clear hchg
   go_wp2
   go_ret
   exact ⟨-1, rfl, hans.out, hCr.out⟩
def IfAns2 (p : Cls → Bool) (ks : List Cls) (r : Int) : Prop := (r = -1 ∧ ∀ x ∈ ks, p x = false) ∨ ∃ k : Nat, k < ks.length ∧ r = k ∧ p (ks.getD k 0) = true ∧ ∀ j, j < k → p (ks.getD j 0) = false
def IfInv2 (p : Cls → Bool) (ks : List Cls) (n : Nat) (w : World) (iv : Value) (wr : World) : Prop := ∃ k : Nat, k ≤ n ∧ iv = .int .i64 k ∧ Hid (∀ j, j < k → p (ks.getD j 0) = false) ∧ Chg Nothing w wr
theorem indexF2_any (F : Nat → Prop) (A : Option Addr) (n c : Nat) (ks : List Cls) (p : Cls → Bool) (q1 : Nat) (w : World) (H : ClsRow F w A n c ks) (hl : ks.length = n)
  (hcl : ∀ (x : Cls) (W : World), Chg Nothing w W → Calls Tryz.prog 173 #[litC x, .pointer (some ⟨q1, 0, none⟩)] W fun e w' => e = .returned (.bool (p x)) ∧ Chg Nothing W w') :
  Calls Tryz.prog 190 #[.slice A n c, .func (.func 173) #[] #[.pointer (some ⟨q1, 0, none⟩)]] w fun e w' => ∃ r : Int, e = .returned (.int .i64 r) ∧ IfAns2 p ks r ∧ Chg Nothing w w' := by
 have HH := hid (fun (w' : World) (hc : Chg Nothing w w') => H.chg hc (fun _ _ _ h => h))
 have hlh := hid hl
 have hmx := H.max
 have hle := H.le
 have hcl := hid hcl
 clear H hl
 go_enter Tryz.func190, Tryz.ntmps190
 go_wp2_with fail
 go_loopw [8] (fun iv wr => IfInv2 p ks n w iv wr) (fun iv _ => n - (intOf iv).toNat)
 case atStart => exact ⟨0, Nat.zero_le _, rfl, hid (fun j h => by omega), Chg.refl _ _⟩
 case round =>
  obtain ⟨k, hk, rfl, hall, hchg⟩ := hrel
  rcases Nat.lt_or_ge k n with hkn | hkn
  ·obtain ⟨g, o, rfl, -, hgl, c0, c1, c2, c3⟩ := ClsRow.four (HH.out _ hchg) hlh.out hkn
   have hk0 : (0 : Int) ≤ (k : Int) := by omega
   have hkn' : (k : Int) < (n : Int) := by omega
   obtain ⟨y, hy⟩ : ∃ y, y = ks.getD k 0 := ⟨_, rfl⟩
   rw [← hy] at c0 c1 c2 c3
   replace hy := hid hy
   have hc := hid (hcl.out y wr hchg)
   have hCr := hid hchg
   obtain ⟨b, hb⟩ : ∃ b, b = p y := ⟨_, rfl⟩
   rw [← hb] at hc
   replace hb := hid hb
   clear hchg
   go_wp2_with fail
   refine hc.out.mono ?_
   rintro e w2 ⟨rfl, hc2⟩
   have hC2 := hid (hCr.out.trans hc2)
   clear hc2 c0 c1 c2 c3
   cases b with
   | true =>
    have hans := hid (show IfAns2 p ks (k : Int) from .inr ⟨k, by rw [hlh.out]; exact hkn, rfl, by rw [← hy.out, ← hb.out], hall.out⟩)
    go_wp2
    go_ret
    exact ⟨_, rfl, hans.out, hC2.out⟩
   | false =>
    have hnx := hid (show ∀ j, j < k + 1 → p (ks.getD j 0) = false from fun j hj => by
     by_cases hjk : j = k
     ·subst hjk; rw [← hy.out, ← hb.out]
     ·exact hall.out j (by omega))
    go_wp2
    go_roundw
    case rel => exact ⟨k + 1, hkn, by go_num, hnx, hC2.out⟩
    case measure => simp [intOf]; omega
  ·obtain rfl : n = k := by omega
   have hd : decide ((n : Int) < (n : Int)) = false := decide_eq_false (by omega)
   have hans := hid (show IfAns2 p ks (-1) from .inl ⟨rfl, fun x hx => by
    obtain ⟨j, hj, rfl⟩ := List.getElem_of_mem hx
    have := hall.out j (by rw [← hlh.out]; exact hj)
    rwa [List.getD_eq_getElem?_getD, List.getElem?_eq_getElem hj] at this⟩)
   have hCr := hid hchg
   clear hchg
   go_wp2
   go_ret
   exact ⟨-1, rfl, hans.out, hCr.out⟩
def DfInv (g n c : Nat) (rest : List Value) (p : Cls → Bool) (ks : List Cls) (w : World) (iv jv : Value) (wr : World) : Prop := ∃ (i j : Nat) (ys : List Cls), i < j ∧ j ≤ n ∧ iv = .int .i64 i ∧ jv = .int .i64 j ∧ CBlk wr g c ys rest ∧ Hid (ys.length = n) ∧ Hid (ys.take i = (ks.take j).filter fun x => !p x) ∧ Hid (ys.drop j = ks.drop j) ∧ Chg (One g) w wr
theorem take_snocC {ks : List Cls} {j : Nat} (hj : j < ks.length) : ks.take (j + 1) = ks.take j ++ [ks.getD j 0] := by
 rw [List.take_succ_eq_append_getElem hj]; simp [hj]
theorem filt_yes {p : Cls → Bool} {ks : List Cls} {j : Nat} (hj : j < ks.length) (h : p (ks.getD j 0) = true) : ((ks.take (j + 1)).filter fun x => !p x) = (ks.take j).filter fun x => !p x := by
 rw [take_snocC hj, List.filter_append, List.filter_cons_of_neg (by simpa using h)]; simp
theorem filt_no {p : Cls → Bool} {ks : List Cls} {j : Nat} (hj : j < ks.length) (h : p (ks.getD j 0) = false) : ((ks.take (j + 1)).filter fun x => !p x) = ((ks.take j).filter fun x => !p x) ++ [ks.getD j 0] := by
 rw [take_snocC hj, List.filter_append, List.filter_cons_of_pos (by simpa using h)]; simp
theorem filt_none {p : Cls → Bool} {ks : List Cls} (h : ∀ x ∈ ks, p x = false) : (ks.filter fun x => !p x) = ks := List.filter_eq_self.2 fun x hx => by simp [h x hx]
theorem drop_getD {ys ks : List Cls} {j : Nat} (h : ys.drop j = ks.drop j) : ys.getD j 0 = ks.getD j 0 := by
 have := congrArg (fun l => l.getD 0 0) h
 simpa [List.getD_eq_getElem?_getD, List.getElem?_drop] using this
theorem take_set {ys : List Cls} {i : Nat} (hi : i < ys.length) (v : Cls) : (ys.set i v).take (i + 1) = ys.take i ++ [v] := by
 have e1 : (ys.set i v).take i = ys.take i := by
  apply List.ext_getElem?
  intro q
  rw [List.getElem?_take, List.getElem?_take]
  split
  ·rw [List.getElem?_set_ne (by omega)]
  ·rfl
 rw [List.take_succ_eq_append_getElem (by simpa using hi), e1]
 simp
theorem drop_set {ys : List Cls} {i j : Nat} (hij : i < j) (v : Cls) : (ys.set i v).drop j = ys.drop j := by
 apply List.ext_getElem?
 intro q
 rw [List.getElem?_drop, List.getElem?_drop, List.getElem?_set_ne (by omega)]
theorem drop_next {ys ks : List Cls} {j : Nat} (h : ys.drop j = ks.drop j) : ys.drop (j + 1) = ks.drop (j + 1) := by
 have := congrArg (List.drop 1) h
 simpa [List.drop_drop, Nat.add_comm] using this
theorem deleteF1_any (A : Option Addr) (n c base : Nat) (ks : List Cls) (p : Cls → Bool) (q1 q2 : Nat) (w : World) (HO : CRow w base A n c ks) (hl : ks.length = n) (hn9 : n ≤ 1000000000)
  (hcl : ∀ (x : Cls) (W : World), Chg (Of A) w W → Calls Tryz.prog 172 #[litC x, .pointer (some ⟨q1, 0, none⟩), .pointer (some ⟨q2, 0, none⟩)] W fun e w' => e = .returned (.bool (p x)) ∧ Chg Nothing W w') :
  Calls Tryz.prog 174 #[.slice A n c, .func (.func 172) #[] #[.pointer (some ⟨q1, 0, none⟩), .pointer (some ⟨q2, 0, none⟩)]] w fun e w' => e = .returned (.slice A (ks.filter fun x => !p x).length c) ∧ CRow w' base A (ks.filter fun x => !p x).length c (ks.filter fun x => !p x) ∧ Chg (Of A) w w' := by
 have hX := hid (indexF1_any _ A n c ks p q1 q2 w (RowAt.of_own HO) hl (fun x W hc => hcl x W hc.up))
 have hlh := hid hl
 rcases Nat.eq_zero_or_pos n with h0 | h0
 ·subst h0
  have hk0 : ks = [] := List.eq_nil_of_length_eq_zero hl
  subst hk0
  have hX0 := hid (hX.out.mono (R' := fun e w' => e = .returned (.int .i64 (-1)) ∧ Chg Nothing w w') (fun e w' ⟨r, he, ha, hc⟩ => by
   rcases ha with ⟨hr, -⟩ | ⟨k, hk, -⟩
   ·exact ⟨by rw [he, hr], hc⟩
   ·simp at hk))
  have hOh := hid HO
  clear hX HO hcl hl
  go_enter Tryz.func174, Tryz.ntmps174
  go_wp2_with fail
  refine hX0.out.mono ?_
  rintro e w1 ⟨rfl, hc1⟩
  have hO1 := hid (own_chg hOh.out hc1 (fun _ _ h => h))
  replace hc1 := hid hc1
  go_wp2
  go_ret
  exact ⟨rfl, hO1.out, hc1.out.up⟩
 ·obtain ⟨g, rest, rfl, hbg, hC, -, hnc, hcx⟩ := CRow.blk HO h0
  have hof : ∀ j, Of (some ⟨g, 0, none⟩) j → One g j := fun j hj => by obtain ⟨a, e, hk⟩ := hj; injection e with e; subst e; exact hk
  have hto : ∀ j, One g j → Of (some ⟨g, 0, none⟩) j := fun j hj => ⟨_, rfl, hj⟩
  have hCh := hid hC
  have hOh := hid HO
  have hcl2 := hid (fun (x : Cls) (W : World) (hc : Chg (One g) w W) => hcl x W (hc.mono (fun j _ h => hto j h)))
  clear HO hcl hC hl
  go_enter Tryz.func174, Tryz.ntmps174
  go_wp2_with fail
  refine hX.out.mono ?_
  rintro e w1 ⟨r, rfl, ha, hc1⟩
  have hC1 := hid (hCh.out.chg hc1 id)
  have hO1 := hid (own_chg hOh.out hc1 (fun _ _ h => h))
  have hc1h := hid hc1
  clear hc1 hX hCh hOh
  rcases ha with ⟨rfl, hno⟩ | ⟨k, hk, rfl, hyes, hno⟩
  ·have hfn := hid (filt_none hno)
   clear hno
   go_wp2
   go_ret
   exact ⟨by rw [hfn.out, hlh.out]; rfl, by rw [hfn.out, hlh.out]; exact hO1.out, hc1h.out.up⟩
  ·rw [hlh.out] at hk
   have hst := hid (show ks.take k = (ks.take (k + 1)).filter fun x => !p x from by
    rw [filt_yes (by rw [hlh.out]; exact hk) hyes, filt_none (fun x hx => by
     obtain ⟨j, hj, rfl⟩ := List.getElem_of_mem hx
     have hj2 : j < k := by simp at hj; omega
     have := hno j hj2
     rw [List.getD_eq_getElem?_getD, List.getElem?_eq_getElem (by rw [hlh.out]; omega)] at this
     simpa using this)])
   have hkn1 : ((k : Int) == -1) = false := beq_eq_false_iff_ne.2 (by omega)
   have hk0 : (0 : Int) ≤ (k : Int) := by omega
   clear hyes hno
   go_wp2_with fail
   go_loopw [5, 6] (fun iv jv wr => DfInv g n c rest p ks w iv jv wr) (fun _ jv _ => n - (intOf jv).toNat)
   case atStart => exact ⟨k, k + 1, ks, by omega, hk, rfl, by go_num, hC1.out, hid hlh.out, hid hst.out, hid rfl, hc1h.out.up⟩
   case round =>
    obtain ⟨i, j, ys, hij, hj, rfl, rfl, hB, hyl, htk, hdr, hchg⟩ := hrel
    rcases Nat.lt_or_ge j n with hjn | hjn
    ·have c0 := (hB.cells (show j < ys.length by rw [hyl.out]; exact hjn) 0 (by decide)).1
     have c1 := (hB.cells (show j < ys.length by rw [hyl.out]; exact hjn) 1 (by decide)).1
     have c2 := (hB.cells (show j < ys.length by rw [hyl.out]; exact hjn) 2 (by decide)).1
     have c3 := (hB.cells (show j < ys.length by rw [hyl.out]; exact hjn) 3 (by decide)).1
     have hyd := drop_getD hdr.out
     obtain ⟨y, hy⟩ : ∃ y, y = ys.getD j 0 := ⟨_, rfl⟩
     rw [← hy] at c0 c1 c2 c3 hyd
     replace hyd := hid hyd
     replace hy := hid hy
     rw [show (clsL y).getD 0 undef = .int .u64 (wd y 0) from rfl, Nat.add_zero] at c0
     rw [show (clsL y).getD 1 undef = .int .u64 (wd y 1) from rfl] at c1
     rw [show (clsL y).getD 2 undef = .int .u64 (wd y 2) from rfl] at c2
     rw [show (clsL y).getD 3 undef = .int .u64 (wd y 3) from rfl] at c3
     have hj0 : (0 : Int) ≤ (j : Int) := by omega
     have hjI : (j : Int) < (n : Int) := by omega
     have hi0 : (0 : Int) ≤ (i : Int) := by omega
     have hiI : (i : Int) < (n : Int) := by omega
     have hgl := hB.lt
     have hZ := hid (Blk.new wr #[.int .u64 0, .int .u64 0, .int .u64 0, .int .u64 0] 84)
     have hBr := hid hB
     have hCr := hid hchg
     clear hB hchg
     go_wp2_with (with_reducible refine halt_op (.store 84 (.tmp 7) (.tmp 25)) ?_)
     unfold Halted
     refine store_blk rfl 84 (.tmp 7) (.tmp 25) (by rfl) _ (by rfl) _ (by rfl) hZ.out (by rfl) (by exact sizeCls) (by rfl) ?_
     intro w3 hB3 hc3
     have hcz := hid (((Chg.refl Nothing wr).alloc (.cells #[.int .u64 0, .int .u64 0, .int .u64 0, .int .u64 0] 84)).then hc3 (fun i hi h => absurd (show i = wr.heap.size from h) (by omega)))
     have hC3 := hid (hCr.out.trans (Chg.up (S := One g) hcz.out))
     have hB3g := hid (hBr.out.chg hcz.out id)
     have hcl3 := hid (hcl2.out y w3 hC3.out)
     obtain ⟨r0, r1, r2, r3, -, -, -, -, hlt1⟩ := CBox.at_ (show CBox w3 wr.heap.size y from hB3)
     have hX3 := hid (show CBox w3 wr.heap.size y from hB3)
     obtain ⟨b, hb⟩ : ∃ b, b = p y := ⟨_, rfl⟩
     rw [← hb] at hcl3
     clear hB3 hc3 hZ hcz hBr hCr c0 c1 c2 c3
     go_wp2_with fail
     refine hcl3.out.mono ?_
     rintro e w4 ⟨rfl, hc4⟩
     have hC4 := hid (hC3.out.trans (Chg.up (S := One g) hc4))
     have hB4 := hid (hB3g.out.chg hc4 id)
     obtain ⟨s0, s1, s2, s3, -, -, -, -, hlt2⟩ := CBox.at_ (show CBox w4 wr.heap.size y from hX3.out.chg hc4 id)
     clear hc4 r0 r1 r2 r3
     cases b with
     | true =>
      have hft := hid (show ys.take i = (ks.take (j + 1)).filter fun x => !p x from by rw [filt_yes (by rw [hlh.out]; exact hjn) (by rw [← hyd.out, ← hb])]; exact htk.out)
      have hdn := hid (drop_next hdr.out)
      clear hb
      go_wp2
      go_roundw
      case rel => exact ⟨i, j + 1, ys, by omega, hjn, rfl, by go_num, hB4.out, hyl, hft, hdn, hC4.out⟩
      case measure => simp [intOf]; omega
     | false =>
      have hft := hid (show (ys.set i y).take (i + 1) = (ks.take (j + 1)).filter fun x => !p x from by rw [filt_no (by rw [hlh.out]; exact hjn) (by rw [← hyd.out, ← hb]), take_set (by rw [hyl.out]; omega), htk.out, hyd.out])
      have hdn := hid (show (ys.set i y).drop (j + 1) = ks.drop (j + 1) from by rw [drop_set (by omega)]; exact drop_next hdr.out)
      have hyl2 := hid (show (ys.set i y).length = n from by rw [List.length_set]; exact hyl.out)
      have hgl4 := hB4.out.lt
      clear hb
      go_wp2_with (with_reducible refine halt_op (.store 84 (.tmp 33) (.tmp 32)) ?_)
      unfold Halted
      refine store_in rfl 84 (.tmp 33) (.tmp 32) (by rfl) _ (i*4) (by rfl) _ (by rfl) hB4.out.1 (by show i * 4 + 4 ≤ (ys.flatMap clsL ++ rest).length; rw [List.length_append, flat_len clsL 4 clsL_len4, hyl.out]; omega) (by exact sizeCls) (by rfl) ?_
      intro w5 hB5 hc5
      have hB5h := hid (hB4.out.set (show i < ys.length by rw [hyl.out]; omega) y hB5)
      have hC5 := hid (hC4.out.trans hc5)
      clear hB5 hc5 s0 s1 s2 s3
      go_wp2
      go_roundw
      case rel => exact ⟨i + 1, j + 1, _, by omega, hjn, by go_num, by go_num, hB5h.out, hyl2, hft, hdn, hC5.out⟩
      case measure => simp [intOf]; omega
    ·obtain rfl : n = j := by omega
     have hd : decide ((n : Int) < (n : Int)) = false := decide_eq_false (by omega)
     have hi0 : (0 : Int) ≤ (i : Int) := by omega
     have hr1 := run_from elemCl sizeCl (some ⟨g, 0, none⟩) n c (i : Int) i rfl (by omega)
     have hr2 := run_upto elemCl sizeCl (some ⟨g, 0, none⟩) n c (i : Int) i rfl (by omega)
     rw [show pieceA (some ⟨g, 0, none⟩) 0 c 4 = some ⟨g, 0, none⟩ from by unfold pieceA; split <;> simp [Addr.add]] at hr2
     obtain ⟨w9, hcr9, ⟨zs, hB9, hzl⟩, hc9⟩ := run_clear_cls hB (i := i) (by rw [hyl.out]; omega) (n - i) (c - i) (pieceA (some ⟨g, 0, none⟩) i c 4) (by rw [hyl.out]) (fun hp => by
      unfold pieceA
      rw [if_neg (by omega)]
      simp [add_plain])
     have hfin := hid (show ys.take i = ks.filter fun x => !p x from by rw [htk.out, List.take_of_length_le (by rw [hlh.out]; omega)])
     have hlen := hid (show (ks.filter fun x => !p x).length = i from by rw [← hfin.out, List.length_take, hyl.out]; omega)
     have hO9 := hid (hB9.row hbg i (by simp; rw [hyl.out]; omega) (by omega))
     have hC9 := hid (hchg.trans hc9)
     have hti := hid (show (ys.take i ++ zs).take i = ks.filter fun x => !p x from by rw [List.take_append_of_le_length (by rw [List.length_take, hyl.out]; omega), ← hfin.out, List.take_take]; congr 1; omega)
     clear hB hchg hB9 hc9
     go_wp2
     go_ret
     exact ⟨by rw [hlen.out]; rfl, by rw [hlen.out, ← hti.out]; exact hO9.out, hC9.out.mono (fun j _ h => hto j h)⟩
theorem deleteF2_any (A : Option Addr) (n c base : Nat) (ks : List Cls) (p : Cls → Bool) (q1 : Nat) (w : World) (HO : CRow w base A n c ks) (hl : ks.length = n) (hn9 : n ≤ 1000000000)
  (hcl : ∀ (x : Cls) (W : World), Chg (Of A) w W → Calls Tryz.prog 173 #[litC x, .pointer (some ⟨q1, 0, none⟩)] W fun e w' => e = .returned (.bool (p x)) ∧ Chg Nothing W w') :
  Calls Tryz.prog 174 #[.slice A n c, .func (.func 173) #[] #[.pointer (some ⟨q1, 0, none⟩)]] w fun e w' => e = .returned (.slice A (ks.filter fun x => !p x).length c) ∧ CRow w' base A (ks.filter fun x => !p x).length c (ks.filter fun x => !p x) ∧ Chg (Of A) w w' := by
 have hX := hid (indexF2_any _ A n c ks p q1 w (RowAt.of_own HO) hl (fun x W hc => hcl x W hc.up))
 have hlh := hid hl
 rcases Nat.eq_zero_or_pos n with h0 | h0
 ·subst h0
  have hk0 : ks = [] := List.eq_nil_of_length_eq_zero hl
  subst hk0
  have hX0 := hid (hX.out.mono (R' := fun e w' => e = .returned (.int .i64 (-1)) ∧ Chg Nothing w w') (fun e w' ⟨r, he, ha, hc⟩ => by
   rcases ha with ⟨hr, -⟩ | ⟨k, hk, -⟩
   ·exact ⟨by rw [he, hr], hc⟩
   ·simp at hk))
  have hOh := hid HO
  clear hX HO hcl hl
  go_enter Tryz.func174, Tryz.ntmps174
  go_wp2_with fail
  refine hX0.out.mono ?_
  rintro e w1 ⟨rfl, hc1⟩
  have hO1 := hid (own_chg hOh.out hc1 (fun _ _ h => h))
  replace hc1 := hid hc1
  go_wp2
  go_ret
  exact ⟨rfl, hO1.out, hc1.out.up⟩
 ·obtain ⟨g, rest, rfl, hbg, hC, -, hnc, hcx⟩ := CRow.blk HO h0
  have hof : ∀ j, Of (some ⟨g, 0, none⟩) j → One g j := fun j hj => by obtain ⟨a, e, hk⟩ := hj; injection e with e; subst e; exact hk
  have hto : ∀ j, One g j → Of (some ⟨g, 0, none⟩) j := fun j hj => ⟨_, rfl, hj⟩
  have hCh := hid hC
  have hOh := hid HO
  have hcl2 := hid (fun (x : Cls) (W : World) (hc : Chg (One g) w W) => hcl x W (hc.mono (fun j _ h => hto j h)))
  clear HO hcl hC hl
  go_enter Tryz.func174, Tryz.ntmps174
  go_wp2_with fail
  refine hX.out.mono ?_
  rintro e w1 ⟨r, rfl, ha, hc1⟩
  have hC1 := hid (hCh.out.chg hc1 id)
  have hO1 := hid (own_chg hOh.out hc1 (fun _ _ h => h))
  have hc1h := hid hc1
  clear hc1 hX hCh hOh
  rcases ha with ⟨rfl, hno⟩ | ⟨k, hk, rfl, hyes, hno⟩
  ·have hfn := hid (filt_none hno)
   clear hno
   go_wp2
   go_ret
   exact ⟨by rw [hfn.out, hlh.out]; rfl, by rw [hfn.out, hlh.out]; exact hO1.out, hc1h.out.up⟩
  ·rw [hlh.out] at hk
   have hst := hid (show ks.take k = (ks.take (k + 1)).filter fun x => !p x from by
    rw [filt_yes (by rw [hlh.out]; exact hk) hyes, filt_none (fun x hx => by
     obtain ⟨j, hj, rfl⟩ := List.getElem_of_mem hx
     have hj2 : j < k := by simp at hj; omega
     have := hno j hj2
     rw [List.getD_eq_getElem?_getD, List.getElem?_eq_getElem (by rw [hlh.out]; omega)] at this
     simpa using this)])
   have hkn1 : ((k : Int) == -1) = false := beq_eq_false_iff_ne.2 (by omega)
   have hk0 : (0 : Int) ≤ (k : Int) := by omega
   clear hyes hno
   go_wp2_with fail
   go_loopw [5, 6] (fun iv jv wr => DfInv g n c rest p ks w iv jv wr) (fun _ jv _ => n - (intOf jv).toNat)
   case atStart => exact ⟨k, k + 1, ks, by omega, hk, rfl, by go_num, hC1.out, hid hlh.out, hid hst.out, hid rfl, hc1h.out.up⟩
   case round =>
    obtain ⟨i, j, ys, hij, hj, rfl, rfl, hB, hyl, htk, hdr, hchg⟩ := hrel
    rcases Nat.lt_or_ge j n with hjn | hjn
    ·have c0 := (hB.cells (show j < ys.length by rw [hyl.out]; exact hjn) 0 (by decide)).1
     have c1 := (hB.cells (show j < ys.length by rw [hyl.out]; exact hjn) 1 (by decide)).1
     have c2 := (hB.cells (show j < ys.length by rw [hyl.out]; exact hjn) 2 (by decide)).1
     have c3 := (hB.cells (show j < ys.length by rw [hyl.out]; exact hjn) 3 (by decide)).1
     have hyd := drop_getD hdr.out
     obtain ⟨y, hy⟩ : ∃ y, y = ys.getD j 0 := ⟨_, rfl⟩
     rw [← hy] at c0 c1 c2 c3 hyd
     replace hyd := hid hyd
     replace hy := hid hy
     rw [show (clsL y).getD 0 undef = .int .u64 (wd y 0) from rfl, Nat.add_zero] at c0
     rw [show (clsL y).getD 1 undef = .int .u64 (wd y 1) from rfl] at c1
     rw [show (clsL y).getD 2 undef = .int .u64 (wd y 2) from rfl] at c2
     rw [show (clsL y).getD 3 undef = .int .u64 (wd y 3) from rfl] at c3
     have hj0 : (0 : Int) ≤ (j : Int) := by omega
     have hjI : (j : Int) < (n : Int) := by omega
     have hi0 : (0 : Int) ≤ (i : Int) := by omega
     have hiI : (i : Int) < (n : Int) := by omega
     have hgl := hB.lt
     have hZ := hid (Blk.new wr #[.int .u64 0, .int .u64 0, .int .u64 0, .int .u64 0] 84)
     have hBr := hid hB
     have hCr := hid hchg
     clear hB hchg
     go_wp2_with (with_reducible refine halt_op (.store 84 (.tmp 7) (.tmp 25)) ?_)
     unfold Halted
     refine store_blk rfl 84 (.tmp 7) (.tmp 25) (by rfl) _ (by rfl) _ (by rfl) hZ.out (by rfl) (by exact sizeCls) (by rfl) ?_
     intro w3 hB3 hc3
     have hcz := hid (((Chg.refl Nothing wr).alloc (.cells #[.int .u64 0, .int .u64 0, .int .u64 0, .int .u64 0] 84)).then hc3 (fun i hi h => absurd (show i = wr.heap.size from h) (by omega)))
     have hC3 := hid (hCr.out.trans (Chg.up (S := One g) hcz.out))
     have hB3g := hid (hBr.out.chg hcz.out id)
     have hcl3 := hid (hcl2.out y w3 hC3.out)
     obtain ⟨r0, r1, r2, r3, -, -, -, -, hlt1⟩ := CBox.at_ (show CBox w3 wr.heap.size y from hB3)
     have hX3 := hid (show CBox w3 wr.heap.size y from hB3)
     obtain ⟨b, hb⟩ : ∃ b, b = p y := ⟨_, rfl⟩
     rw [← hb] at hcl3
     clear hB3 hc3 hZ hcz hBr hCr c0 c1 c2 c3
     go_wp2_with fail
     refine hcl3.out.mono ?_
     rintro e w4 ⟨rfl, hc4⟩
     have hC4 := hid (hC3.out.trans (Chg.up (S := One g) hc4))
     have hB4 := hid (hB3g.out.chg hc4 id)
     obtain ⟨s0, s1, s2, s3, -, -, -, -, hlt2⟩ := CBox.at_ (show CBox w4 wr.heap.size y from hX3.out.chg hc4 id)
     clear hc4 r0 r1 r2 r3
     cases b with
     | true =>
      have hft := hid (show ys.take i = (ks.take (j + 1)).filter fun x => !p x from by rw [filt_yes (by rw [hlh.out]; exact hjn) (by rw [← hyd.out, ← hb])]; exact htk.out)
      have hdn := hid (drop_next hdr.out)
      clear hb
      go_wp2
      go_roundw
      case rel => exact ⟨i, j + 1, ys, by omega, hjn, rfl, by go_num, hB4.out, hyl, hft, hdn, hC4.out⟩
      case measure => simp [intOf]; omega
     | false =>
      have hft := hid (show (ys.set i y).take (i + 1) = (ks.take (j + 1)).filter fun x => !p x from by rw [filt_no (by rw [hlh.out]; exact hjn) (by rw [← hyd.out, ← hb]), take_set (by rw [hyl.out]; omega), htk.out, hyd.out])
      have hdn := hid (show (ys.set i y).drop (j + 1) = ks.drop (j + 1) from by rw [drop_set (by omega)]; exact drop_next hdr.out)
      have hyl2 := hid (show (ys.set i y).length = n from by rw [List.length_set]; exact hyl.out)
      have hgl4 := hB4.out.lt
      clear hb
      go_wp2_with (with_reducible refine halt_op (.store 84 (.tmp 33) (.tmp 32)) ?_)
      unfold Halted
      refine store_in rfl 84 (.tmp 33) (.tmp 32) (by rfl) _ (i*4) (by rfl) _ (by rfl) hB4.out.1 (by show i * 4 + 4 ≤ (ys.flatMap clsL ++ rest).length; rw [List.length_append, flat_len clsL 4 clsL_len4, hyl.out]; omega) (by exact sizeCls) (by rfl) ?_
      intro w5 hB5 hc5
      have hB5h := hid (hB4.out.set (show i < ys.length by rw [hyl.out]; omega) y hB5)
      have hC5 := hid (hC4.out.trans hc5)
      clear hB5 hc5 s0 s1 s2 s3
      go_wp2
      go_roundw
      case rel => exact ⟨i + 1, j + 1, _, by omega, hjn, by go_num, by go_num, hB5h.out, hyl2, hft, hdn, hC5.out⟩
      case measure => simp [intOf]; omega
    ·obtain rfl : n = j := by omega
     have hd : decide ((n : Int) < (n : Int)) = false := decide_eq_false (by omega)
     have hi0 : (0 : Int) ≤ (i : Int) := by omega
     have hr1 := run_from elemCl sizeCl (some ⟨g, 0, none⟩) n c (i : Int) i rfl (by omega)
     have hr2 := run_upto elemCl sizeCl (some ⟨g, 0, none⟩) n c (i : Int) i rfl (by omega)
     rw [show pieceA (some ⟨g, 0, none⟩) 0 c 4 = some ⟨g, 0, none⟩ from by unfold pieceA; split <;> simp [Addr.add]] at hr2
     obtain ⟨w9, hcr9, ⟨zs, hB9, hzl⟩, hc9⟩ := run_clear_cls hB (i := i) (by rw [hyl.out]; omega) (n - i) (c - i) (pieceA (some ⟨g, 0, none⟩) i c 4) (by rw [hyl.out]) (fun hp => by
      unfold pieceA
      rw [if_neg (by omega)]
      simp [add_plain])
     have hfin := hid (show ys.take i = ks.filter fun x => !p x from by rw [htk.out, List.take_of_length_le (by rw [hlh.out]; omega)])
     have hlen := hid (show (ks.filter fun x => !p x).length = i from by rw [← hfin.out, List.length_take, hyl.out]; omega)
     have hO9 := hid (hB9.row hbg i (by simp; rw [hyl.out]; omega) (by omega))
     have hC9 := hid (hchg.trans hc9)
     have hti := hid (show (ys.take i ++ zs).take i = ks.filter fun x => !p x from by rw [List.take_append_of_le_length (by rw [List.length_take, hyl.out]; omega), ← hfin.out, List.take_take]; congr 1; omega)
     clear hB hchg hB9 hc9
     go_wp2
     go_ret
     exact ⟨by rw [hlen.out]; rfl, by rw [hlen.out, ← hti.out]; exact hO9.out, hC9.out.mono (fun j _ h => hto j h)⟩
theorem partsFreq_any (F : Nat → Prop) (q1 q2 : Nat) (A : Option Addr) (n c : Nat) (xs : List Cls) (K least : Int) (x : Cls) (w : World) (H : ClsRow F w A n c xs) (hl : xs.length = n) (hn9 : n ≤ 1000000000) (h1 : Blk w q1 #[.slice A n c, .int .i64 K] 34) (h2 : Blk w q2 #[.int .i64 least] 3) :
  Calls Tryz.prog 172 #[litC x, .pointer (some ⟨q1, 0, none⟩), .pointer (some ⟨q2, 0, none⟩)] w fun e w' => e = .returned (.bool (freqB xs least x)) ∧ Chg Nothing w w' := by
 have hX := Blk.new w (cellsC x) 84
 obtain ⟨r0, r1, r2, r3, -, -, -, -, hlt⟩ := CBox.at_ (show CBox _ _ x from hX)
 have hw0 := hid ((Chg.refl Nothing w).alloc (.cells (cellsC x) 84))
 have h1' := h1.chg hw0.out id
 have h2' := h2.chg hw0.out id
 have x0 := h1'.cell 0 (v := .slice A n c) rfl
 have x1 := h1'.cell 1 (v := .int .i64 K) rfl
 have x2 := h2'.cell 0 (v := .int .i64 least) rfl
 have hx1 := h1'.lt
 have hx2 := h2'.lt
 unfold cellsC at hw0 r0 r1 r2 r3 hlt x0 x1 x2 hx1 hx2 h1' h2'
 have hW := hid (fun (m : Calm (w.alloc (.cells #[.int .u64 (wd x 0), .int .u64 (wd x 1), .int .u64 (wd x 2), .int .u64 (wd x 3)] 84))) => (leafWhere_any F A n c xs K x m.val (H.chg (hw0.out.trans m.chg) (fun _ _ _ h => h)) hl hn9).mono (R' := fun e w' => ∃ A5 c5, e = .returned (.slice A5 (whereTo xs x n).length c5) ∧ Chg Nothing m.val w') (fun e w' h => by obtain ⟨⟨A5, c5, e5, -⟩, hc⟩ := h; exact ⟨A5, c5, e5, hc⟩))
 have hS := hid (fun (m : Calm (w.alloc (.cells #[.int .u64 (wd x 0), .int .u64 (wd x 1), .int .u64 (wd x 2), .int .u64 (wd x 3)] 84))) => (⟨Calm.cell hx1 x0 m, Calm.cell hx1 x1 m, Calm.cell hx2 x2 m, Calm.cell hlt r0 m, Calm.cell hlt r1 m, Calm.cell hlt r2 m, Calm.cell hlt r3 m⟩ : m.val.cell? ⟨q1, 0, none⟩ = some (.slice A n c) ∧ m.val.cell? ⟨q1, 1, none⟩ = some (.int .i64 K) ∧ m.val.cell? ⟨q2, 0, none⟩ = some (.int .i64 least) ∧ m.val.cell? ⟨w.heap.size, 0, none⟩ = some (.int .u64 (wd x 0)) ∧ m.val.cell? ⟨w.heap.size, 1, none⟩ = some (.int .u64 (wd x 1)) ∧ m.val.cell? ⟨w.heap.size, 2, none⟩ = some (.int .u64 (wd x 2)) ∧ m.val.cell? ⟨w.heap.size, 3, none⟩ = some (.int .u64 (wd x 3))))
 have hd0 := hid ((Chg.refl Nothing (w.alloc (.cells #[.int .u64 (wd x 0), .int .u64 (wd x 1), .int .u64 (wd x 2), .int .u64 (wd x 3)] 84))).drew)
 have hb := hid (show freqB xs least x = decide (least ≤ ((whereTo xs x n).length : Int)) from by unfold freqB; rw [hl])
 clear hX hl H h1 h2 h1' h2' x0 x1 x2 r0 r1 r2 r3
 go_enter Tryz.func172, Tryz.ntmps172
 go_wp2_with fail
 generalize w.alloc (.cells #[.int .u64 (wd x 0), .int .u64 (wd x 1), .int .u64 (wd x 2), .int .u64 (wd x 3)] 84) = W at *
 generalize (whereTo xs x n) = ys at *
 go_region_held3 (fun w' => w'.cell? ⟨q1, 0, none⟩ = some (.slice A n c) ∧ w'.cell? ⟨q1, 1, none⟩ = some (.int .i64 K) ∧ w'.cell? ⟨q2, 0, none⟩ = some (.int .i64 least) ∧ w'.cell? ⟨w.heap.size, 0, none⟩ = some (.int .u64 (wd x 0)) ∧ w'.cell? ⟨w.heap.size, 1, none⟩ = some (.int .u64 (wd x 1)) ∧ w'.cell? ⟨w.heap.size, 2, none⟩ = some (.int .u64 (wd x 2)) ∧ w'.cell? ⟨w.heap.size, 3, none⟩ = some (.int .u64 (wd x 3)))
  (first | exact hS.out ⟨_, hd0.out⟩ | exact hS.out ⟨_, hd0.out.trans hcy⟩)
  (first | (go_at_call 99; with_reducible refine (hW.out ⟨_, hd0.out⟩).mono ?_; rintro e w5 ⟨A5, c5, rfl, hcy⟩))
 all_goals
  go_wp2
  go_ret
  exact ⟨by rw [hb.out]; rfl, hw0.out.trans (hd0.out.trans hcy)⟩
theorem partsRare_any (F : Nat → Prop) (q0 q1 q2 : Nat) (A : Option Addr) (n c : Nat) (xs : List Cls) (K least : Int) (x : Cls) (w : World) (H : ClsRow F w A n c xs) (hl : xs.length = n) (hn9 : n ≤ 1000000000) (h1 : Blk w q1 #[.slice A n c, .int .i64 K] 34) (h2 : Blk w q2 #[.int .i64 least] 3) (h0 : Blk w q0 #[.func (.func 172) #[] #[.pointer (some ⟨q1, 0, none⟩), .pointer (some ⟨q2, 0, none⟩)]] 120) :
  Calls Tryz.prog 173 #[litC x, .pointer (some ⟨q0, 0, none⟩)] w fun e w' => e = .returned (.bool (!freqB xs least x)) ∧ Chg Nothing w w' := by
 have hX := Blk.new w (cellsC x) 84
 obtain ⟨r0, r1, r2, r3, -, -, -, -, hlt⟩ := CBox.at_ (show CBox _ _ x from hX)
 have hw0 := hid ((Chg.refl Nothing w).alloc (.cells (cellsC x) 84))
 have x0 := (h0.chg hw0.out id).cell 0 (v := .func (.func 172) #[] #[.pointer (some ⟨q1, 0, none⟩), .pointer (some ⟨q2, 0, none⟩)]) rfl
 have hFq := hid (partsFreq_any F q1 q2 A n c xs K least x _ (H.chg hw0.out (fun _ _ _ h => h)) hl hn9 (h1.chg hw0.out id) (h2.chg hw0.out id))
 unfold cellsC at hw0 r0 r1 r2 r3 hlt x0 hFq
 generalize freqB xs least x = b at hFq ⊢
 clear hX hl H h1 h2 h0
 go_enter Tryz.func173, Tryz.ntmps173
 go_wp2_with fail
 refine hFq.out.mono ?_
 rintro e w2 ⟨rfl, hc2⟩
 have hC2 := hid (hw0.out.trans hc2)
 clear hc2
 go_wp2
 go_ret
 exact ⟨rfl, hC2.out⟩
theorem splitParts_any (F : Nat → Prop) (A : Option Addr) (n c : Nat) (xs : List Cls) (K least : Int) (w : World) (H : ClsRow F w A n c xs) (hl : xs.length = n) (hn9 : n ≤ 1000000000) :
    Calls Tryz.prog 147 #[.agg #[.slice A n c, .int .i64 K], .int .i64 least] w fun e w' => ∃ A1 c1 A2 c2, e = .returned (.tuple #[.slice A1 (freqL xs least).length c1, .slice A2 (rareL xs least).length c2]) ∧ CRow w' w.heap.size A1 (freqL xs least).length c1 (freqL xs least) ∧ CRow w' w.heap.size A2 (rareL xs least).length c2 (rareL xs least) ∧ Chg Nothing w w' := by
  have hL := hid ((Blk.new w #[.slice A n c, .int .i64 K] 34).alloc (.cells #[.int .i64 least] 3))
  have hE := Blk.new (w.alloc (.cells #[.slice A n c, .int .i64 K] 34)) #[.int .i64 least] 3
  rw [World.size_alloc] at hE
  have hE := hid hE
  have hC0 := hid (((Chg.refl Nothing w).alloc (.cells #[.slice A n c, .int .i64 K] 34)).alloc (.cells #[.int .i64 least] 3))
  have HH := hid (fun (w' : World) (hc : Chg Nothing w w') => H.chg hc (fun _ _ _ h => h))
  have hlh := hid hl
  clear H hl
  have hB3 := Blk.new ((w.alloc (.cells #[.slice A n c, .int .i64 K] 34)).alloc (.cells #[.int .i64 least] 3)) #[.func (.func 172) #[] #[.pointer (some ⟨w.heap.size, 0, none⟩), .pointer (some ⟨w.heap.size + 1, 0, none⟩)]] 120
  rw [World.size_alloc, World.size_alloc] at hB3
  have hB3h := hid hB3
  have hcz := hid (hC0.out.alloc (.cells #[.func (.func 172) #[] #[.pointer (some ⟨w.heap.size, 0, none⟩), .pointer (some ⟨w.heap.size + 1, 0, none⟩)]] 120))
  have hL3 := hid (hL.out.alloc (.cells #[.func (.func 172) #[] #[.pointer (some ⟨w.heap.size, 0, none⟩), .pointer (some ⟨w.heap.size + 1, 0, none⟩)]] 120))
  have hE3 := hid (hE.out.alloc (.cells #[.func (.func 172) #[] #[.pointer (some ⟨w.heap.size, 0, none⟩), .pointer (some ⟨w.heap.size + 1, 0, none⟩)]] 120))
  have x0 := hL3.out.cell 0 (v := .slice A n c) rfl
  have x1 := hL3.out.cell 1 (v := .int .i64 K) rfl
  clear hC0 hL hE hB3
  go_enter Tryz.func147, Tryz.ntmps147
  go_wp2_with fail
  refine (leafKinds_any F A n c xs K _ (HH.out _ hcz.out) hlh.out hn9).mono ?_
  rintro e w4 ⟨A4, c4, rfl, hO4, hc4⟩
  have hC4 := hid (hcz.out.trans hc4)
  have hL4 := hid (hL3.out.chg hc4 id)
  have hE4 := hid (hE3.out.chg hc4 id)
  have hB4 := hid (hB3h.out.chg hc4 id)
  have hO4h := hid hO4
  clear hO4 hc4 x0 x1 hL3 hE3 hB3h hcz
  have hKl := hid (show (kindsL xs).length ≤ n from by rw [← hlh.out]; exact kindsTo_len xs xs.length)
  have hS := hid (fun (w' : World) (hc : Chg Nothing w4 w') => (hB4.out.chg hc id).cell 0 (v := .func (.func 172) #[] #[.pointer (some ⟨w.heap.size, 0, none⟩), .pointer (some ⟨w.heap.size + 1, 0, none⟩)]) rfl)
  have hCl := hid (fun (w' : World) (hc : Chg Nothing w4 w') => clsClone_any _ A4 (kindsL xs).length c4 (kindsL xs) w' ((RowAt.of_own hO4h.out).chg hc (fun _ _ _ h => h)) rfl (by have := hKl.out; omega))
  have hD1 := hid (fun (w' : World) (A9 : Option Addr) (c9 : Nat) (hc : Chg Nothing w4 w') (hO : CRow w' w4.heap.size A9 (kindsL xs).length c9 (kindsL xs)) => deleteF1_any A9 (kindsL xs).length c9 w4.heap.size (kindsL xs) (freqB xs least) w.heap.size (w.heap.size + 1) w' hO rfl (by have := hKl.out; omega) (fun x W hW => partsFreq_any F _ _ A n c xs K least x W (HH.out _ ((hC4.out.trans hc).then hW (fun i hi h => by have := own_of hO i h; have := hC4.out.size; omega))) hlh.out hn9 ((hL4.out.chg hc id).chg hW (fun h => by have := own_of hO _ h; have := hL4.out.lt; omega)) ((hE4.out.chg hc id).chg hW (fun h => by have := own_of hO _ h; have := hE4.out.lt; omega))))
  have hD2 := hid (fun (w' : World) (A9 : Option Addr) (c9 : Nat) (hc : Chg Nothing w4 w') (hO : CRow w' w4.heap.size A9 (kindsL xs).length c9 (kindsL xs)) => deleteF2_any A9 (kindsL xs).length c9 w4.heap.size (kindsL xs) (fun x => !freqB xs least x) (w.heap.size + 1 + 1) w' hO rfl (by have := hKl.out; omega) (fun x W hW => partsRare_any F _ _ _ A n c xs K least x W (HH.out _ ((hC4.out.trans hc).then hW (fun i hi h => by have := own_of hO i h; have := hC4.out.size; omega))) hlh.out hn9 ((hL4.out.chg hc id).chg hW (fun h => by have := own_of hO _ h; have := hL4.out.lt; omega)) ((hE4.out.chg hc id).chg hW (fun h => by have := own_of hO _ h; have := hE4.out.lt; omega)) ((hB4.out.chg hc id).chg hW (fun h => by have := own_of hO _ h; have := hB4.out.lt; omega))))
  have hf1 := hid (show ((kindsL xs).filter fun x => !(!freqB xs least x)) = freqL xs least from by unfold freqL; congr 1; funext x; simp)
  rw [hf1.out] at hD2
  have hf2 := hid (show ((kindsL xs).filter fun x => !freqB xs least x) = rareL xs least from rfl)
  rw [hf2.out] at hD1
  have hcur := hid ((Chg.refl Nothing w4).drew)
  go_wp2_with fail
  generalize (kindsL xs) = ks at *
  have hS' := hid (fun (w' : World) (hc : Chg Nothing w4 w') => (hS.out w' hc))
  clear hS
  go_region_held3 (fun w' => w'.cell? ⟨w.heap.size + 1 + 1, 0, none⟩ = some (.func (.func 172) #[] #[.pointer (some ⟨w.heap.size, 0, none⟩), .pointer (some ⟨w.heap.size + 1, 0, none⟩)]))
    (exact hS'.out _ hcur.out)
    (first
    | (go_at_call 175
       have hAo := hA
       with_reducible refine (hCl.out _ hcur.out).mono ?_
       rintro e wB ⟨AB, cB, rfl, hB0, hcB⟩
       have hdis := hid (fun (j : Nat) (h1 : Of AA j) (h2 : Of AB j) => (show False from by have h3 := own_of hA.out j h1; have h4 := own_of hB0 j h2; omega))
       have hB := hid (own_low hB0 hcur.out.size)
       replace hA := hid (own_chg hA.out hcB (fun _ _ h => h))
       replace hcur := hid (hcur.out.trans hcB)
       clear hAo hB0 hcB)
    | (go_at_call 175
       with_reducible refine (hCl.out _ hcur.out).mono ?_
       rintro e wA ⟨AA, cA, rfl, hA0, hcA⟩
       have hA := hid (own_low hA0 hcur.out.size)
       replace hcur := hid (hcur.out.trans hcA)
       clear hA0 hcA)
    | (go_at_call 174
       with_reducible refine (hD1.out _ _ _ hcur.out hA.out).mono ?_
       rintro e wC ⟨rfl, hA0, hcA⟩
       replace hcur := hid (hcur.out.then hcA (fun i hi h => by have := own_of hA.out i h; omega))
       replace hA := hid hA0
       try replace hB := hid (own_chg hB.out hcA (fun j hj h => hdis.out j h hj))
       clear hA0 hcA)
    | (go_at_call 174
       with_reducible refine (hD2.out _ _ _ hcur.out hA.out).mono ?_
       rintro e wC ⟨rfl, hA0, hcA⟩
       replace hcur := hid (hcur.out.then hcA (fun i hi h => by have := own_of hA.out i h; omega))
       replace hA := hid hA0
       try replace hB := hid (own_chg hB.out hcA (fun j hj h => hdis.out j h hj))
       clear hA0 hcA)
    | (go_at_call 174
       with_reducible refine (hD1.out _ _ _ hcur.out hB.out).mono ?_
       rintro e wC ⟨rfl, hB0, hcB⟩
       replace hcur := hid (hcur.out.then hcB (fun i hi h => by have := own_of hB.out i h; omega))
       replace hB := hid hB0
       replace hA := hid (own_chg hA.out hcB (fun j hj h => hdis.out j hj h))
       clear hB0 hcB)
    | (go_at_call 174
       with_reducible refine (hD2.out _ _ _ hcur.out hB.out).mono ?_
       rintro e wC ⟨rfl, hB0, hcB⟩
       replace hcur := hid (hcur.out.then hcB (fun i hi h => by have := own_of hB.out i h; omega))
       replace hB := hid hB0
       replace hA := hid (own_chg hA.out hcB (fun j hj h => hdis.out j hj h))
       clear hB0 hcB))
  all_goals
    have hAl := hid (own_low hA.out hC4.out.size)
    have hBl := hid (own_low hB.out hC4.out.size)
    have hCf := hid (hC4.out.trans hcur.out)
    clear hA hB hcur
    go_wp2
    go_ret2
    first
    | exact ⟨_, _, _, _, rfl, hAl.out, hBl.out, hCf.out⟩
    | exact ⟨_, _, _, _, rfl, hBl.out, hAl.out, hCf.out⟩
end Go.Proofs.YtoelilejohfglaaGreat
