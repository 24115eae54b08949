/- Joined texts: LtrA RngB NaiA NaiB NaiC Rnh NaiD. -/
import Derived.Test.YtoelilejohfglaaGreatBunT
import Derived.Test.YtoelilejohfglaaGreatBunB
import Derived.Laws.BytesArg
import Derived.Test.YtoelilejohfglaaGreatBunS
import Derived.Test.YtoelilejohfglaaGreatBunR
import Derived.Test.YtoelilejohfglaaGreatBunU
import Derived.Deep.RegionHeld3
import Derived.Stop.RegionWithIn
import Derived.Test.YtoelilejohfglaaGreatBunQ
import Derived.OrdersHeld
import Derived.Deep.RegionHeld
set_option maxHeartbeats 16000000
set_option maxRecDepth 100000
namespace Go.Proofs.YtoelilejohfglaaGreat
open Go.RowKit
set_option linter.unusedVariables false
set_option linter.unusedSimpArgs false
theorem infoU8 : (Tryz.prog.info? 5).map (fun i => (i.zero, i.size, i.bytes)) = some (some (.int .u8 0), 1, 1) := by kernel_rfl
theorem conv_own {w : World} {base : Nat} {A : Option Addr} {n c : Nat} {bs : List Int} (h : w.ownsRow base 5 1 (.slice A n c) n (bs.map (Value.int .u8))) : (convert 127 9 (.slice A n c)).run Tryz.prog w = .ok (.string (strOfNums bs)) w := by
 have hE := ElsAt.of_own (enc := Value.int .u8) (d := 0) (xs := bs) h
 have hl := hE.2.2.2.1
 rcases h.2 with ⟨e1, h0⟩ | ⟨g, cap, cur, e1, hb, hg, -⟩
 ·injection e1 with e1 e2 e3
  subst e1 e3 h0
  have : bs = [] := List.eq_nil_of_length_eq_zero hl
  subst this
  exact run_convert_bytes_nil _ _ _ Tryz.underlying127 Tryz.underlying5 _ _ _ Tryz.underlying9
 ·injection e1 with e1 e2 e3
  subst e1 e3
  refine run_convert_bytes_arg (P := Tryz.prog) _ _ _ Tryz.underlying127 Tryz.underlying5 _ 0 n c bs hl (fun i hi => ?_) _ Tryz.underlying9
  obtain ⟨g2, o2, e2, -, -, h3⟩ := hE.at_ hi
  injection e2 with e2; injection e2 with e3 e4; subst e3 e4
  exact h3
def bytC (x : Cls) : Int := match singleC x with | some b => (b : Int) | none => 0
theorem bytC_bound (x : Cls) : 0 ≤ bytC x ∧ bytC x ≤ 255 := by
 unfold bytC
 cases h : singleC x with
 | none => exact ⟨Int.le_refl _, by decide⟩
 | some b => have := (single_some h).1; constructor <;> simp only [] <;> omega
def lettersB (xs : List Cls) : Bool := xs.all fun x => decide (sizeC x = 1)
def lettersS (xs : List Cls) : ByteArray := strOfNums (xs.map bytC)
theorem singleV_yes {x : Cls} (h : sizeC x = 1) : singleV x = #[.int .u8 (bytC x), .bool true] := by
 obtain ⟨b, hb, rfl⟩ := sizeC_one h
 unfold singleV bytC
 rw [singleC_two b hb]
theorem singleV_no {x : Cls} (h : ¬ sizeC x = 1) : singleV x = #[.int .u8 0, .bool false] := by
 unfold singleV
 rw [singleC_not h]
theorem lettersB_iff (xs : List Cls) : lettersB xs = true ↔ ∀ j, j < xs.length → sizeC (xs.getD j 0) = 1 := by
 unfold lettersB
 rw [List.all_eq_true]
 constructor
 ·intro h j hj
  have := h (xs.getD j 0) (by rw [List.getD_eq_getElem?_getD, List.getElem?_eq_getElem hj]; exact List.getElem_mem _)
  simpa using this
 ·intro h x hx
  obtain ⟨j, hj, rfl⟩ := List.getElem_of_mem hx
  have := h j hj
  rw [List.getD_eq_getElem?_getD, List.getElem?_eq_getElem hj] at this
  simpa using this
theorem byts_take (xs : List Cls) (k : Nat) (h : k < xs.length) : (xs.map bytC).take (k + 1) = (xs.map bytC).take k ++ [bytC (xs.getD k 0)] := by
 rw [List.take_add_one, List.getElem?_map, List.getElem?_eq_getElem h, List.getD_eq_getElem?_getD, List.getElem?_eq_getElem h]; rfl
abbrev U8Row (w : World) (base : Nat) (A : Option Addr) (n c : Nat) (bs : List Int) : Prop := w.ownsRow base 5 1 (.slice A n c) n (bs.map (Value.int .u8))
def LrInv (xs : List Cls) (n base : Nat) (w1 : World) (ov iv : Value) (wr : World) : Prop := ∃ (k : Nat) (A : Option Addr) (c : Nat), k ≤ n ∧ iv = .int .i64 k ∧ ov = .slice A k c ∧ U8Row wr base A k c ((xs.map bytC).take k) ∧ Hid (∀ j, j < k → sizeC (xs.getD j 0) = 1) ∧ Chg Nothing w1 wr
def lettersV (xs : List Cls) : Array Value := if lettersB xs = true then #[.string (lettersS xs), .bool true] else #[.string ⟨#[]⟩, .bool false]
theorem leafLetters_any (F : Nat → Prop) (A : Option Addr) (n c : Nat) (xs : List Cls) (K : Int) (w : World) (H : ClsRow F w A n c xs) (hl : xs.length = n) (hn9 : n ≤ 1000000000) :
  Calls Tryz.prog 100 #[.agg #[.slice A n c, .int .i64 K]] w fun e w' => e = .returned (.tuple (lettersV xs)) ∧ Chg Nothing w w' := by
 have HH := hid (fun (w' : World) (hc : Chg Nothing w w') => H.chg hc (fun _ _ _ h => h))
 have hlh := hid hl
 have hmx := H.max
 have hle := H.le
 have hX := Blk.new w #[.slice A n c, .int .i64 K] 34
 have x0 := hX.cell 0 (v := .slice A n c) rfl
 have hxl := hX.lt
 have hw0 := hid ((Chg.refl Nothing w).alloc (.cells #[.slice A n c, .int .i64 K] 34))
 have hWs := hid (show w.heap.size < (w.alloc (.cells #[.slice A n c, .int .i64 K] 34)).heap.size from by rw [World.size_alloc]; omega)
 clear H hl hX
 go_enter Tryz.func100, Tryz.ntmps100
 go_wp2_with fail
 generalize w.alloc (.cells #[.slice A n c, .int .i64 K] 34) = W at *
 go_loopw [4, 12] (fun ov iv wr => LrInv xs n W.heap.size W ov iv wr) (fun _ iv _ => n - (intOf iv).toNat)
 case atStart => exact ⟨0, none, 0, Nat.zero_le _, rfl, rfl, World.ownsRow_nil _ _ _ _, hid (fun j hj => by omega), Chg.refl _ _⟩
 case round =>
  obtain ⟨k, A1, c1, hk, rfl, rfl, hown, hall, hchg⟩ := hrel
  rcases Nat.lt_or_ge k n with hkn | hkn
  ·obtain ⟨g, o, rfl, -, hgl, c0, c1', c2, c3⟩ := ClsRow.four (HH.out _ (hw0.out.trans hchg)) hlh.out hkn
   have hk0 : (0 : Int) ≤ (k : Int) := by omega
   have hkI : (k : Int) < (n : Int) := by omega
   have htk := hid (byts_take xs k (by rw [hlh.out]; exact hkn))
   obtain ⟨y, hyd⟩ : ∃ y, y = xs.getD k 0 := ⟨_, rfl⟩
   rw [← hyd] at c0 c1' c2 c3 htk
   replace hyd := hid hyd
   have hz := Blk.new wr #[.int .u64 0, .int .u64 0, .int .u64 0, .int .u64 0] 84
   have hZ := hid hz
   have hCr := hid hchg
   have hOw := hid hown
   clear hz hchg hown
   go_wp2_with (with_reducible refine halt_op (.store 84 (.tmp 6) (.tmp 15)) ?_)
   unfold Halted
   refine store_blk rfl 84 (.tmp 6) (.tmp 15) (by rfl) _ (by rfl) _ (by rfl) hZ.out (by rfl) (by exact sizeCls) (by rfl) ?_
   intro w3 hB3 hc3
   have hcz := hid (((Chg.refl Nothing wr).alloc (.cells #[.int .u64 0, .int .u64 0, .int .u64 0, .int .u64 0] 84)).then hc3 (fun i hi h => absurd (show i = wr.heap.size from h) (by omega)))
   have hC3 := hid (hCr.out.trans hcz.out)
   have hOw3 := hid (own_chg hOw.out hcz.out (fun _ _ h => h))
   obtain ⟨r0, r1, r2, r3, -, -, -, -, hlt1⟩ := CBox.at_ (show CBox w3 wr.heap.size y from hB3)
   clear hB3 hc3 hZ hcz hCr hOw c0 c1' c2 c3
   have hbad := hid (fun (h : ¬ sizeC y = 1) => (show lettersB xs = false from by
    rw [← Bool.not_eq_true, lettersB_iff]
    intro hh
    exact h (hyd.out ▸ hh k (by rw [hlh.out]; exact hkn))))
   by_cases h1 : sizeC y = 1
   ·have hSi := hid (fun w => (show Calls Tryz.prog 136 #[litC y] w fun e w' => e = .returned (.tuple #[.int .u8 (bytC y), .bool true]) ∧ Chg Nothing w w' from singleV_yes h1 ▸ classSingle_any y w))
    have hnx2 := hid (show ∀ j, j < k + 1 → sizeC (xs.getD j 0) = 1 from fun j hj => by
     by_cases hjk : j = k
     ·subst hjk; rw [← hyd.out]; exact h1
     ·exact hall.out j (by omega))
    clear h1
    generalize bytC y = b at hSi htk
    go_wp2_with fail
    refine (hSi.out _).mono ?_
    rintro e w4 ⟨rfl, hc4⟩
    have hC4 := hid (hC3.out.trans hc4)
    have hOw4 := hid (own_chg hOw3.out hc4 (fun _ _ h => h))
    clear r0 r1 r2 r3 hc4
    go_wp2_with (at_builtin; refine append_one rfl _ _ 127 rfl W.heap.size 5 (.int .u8 0) 1 Tryz.underlying127 infoU8 rfl A1 c1 k _ rfl hOw4.out (.int .u8 b) rfl rfl ?_ ?_ ?_ ?_)
    ·omega
    ·omega
    ·exact hC4.out.size
    intro A' c' w6 hown6 hc6 hA6
    have hO6 := hid (show U8Row w6 W.heap.size A' (k + 1) c' ((xs.map bytC).take (k + 1)) from by rw [htk.out]; unfold U8Row; rw [List.map_append, List.map_take, List.map_map]; simpa using hown6)
    have oa6 := own_of hOw4.out
    have hC6 := hid (Chg.then hC4.out hc6 (fun i hi h => by have := oa6 _ h; omega))
    clear hown6 hc6 hA6 oa6
    go_wp2
    go_roundw
    case rel => exact ⟨k + 1, A', c', hkn, by go_num, rfl, hO6.out, hnx2, hC6.out⟩
    case measure => simp [intOf]; omega
   ·have hSi := hid (fun w => (show Calls Tryz.prog 136 #[litC y] w fun e w' => e = .returned (.tuple #[.int .u8 0, .bool false]) ∧ Chg Nothing w w' from singleV_no h1 ▸ classSingle_any y w))
    have hb := hid (hbad.out h1)
    clear h1
    go_wp2_with fail
    refine (hSi.out _).mono ?_
    rintro e w4 ⟨rfl, hc4⟩
    have hC4 := hid (hw0.out.trans (hC3.out.trans hc4))
    clear r0 r1 r2 r3 hc4
    go_wp2
    go_ret2
    exact ⟨by unfold lettersV; rw [if_neg (by rw [hb.out]; decide)]; rfl, hC4.out⟩
  ·obtain rfl : n = k := by omega
   have hd : decide ((n : Int) < (n : Int)) = false := decide_eq_false (by omega)
   have hb := hid (show lettersB xs = true from by rw [lettersB_iff, hlh.out]; exact hall.out)
   have hCr := hid (hw0.out.trans hchg)
   have hcv := conv_own hown
   have hfin := hid (show strOfNums ((xs.map bytC).take n) = lettersS xs from by unfold lettersS; rw [List.take_of_length_le (by simp; rw [hlh.out]; omega)])
   rw [hfin.out] at hcv
   clear hchg hall hown
   go_wp2
   go_ret2
   exact ⟨by unfold lettersV; rw [if_pos hb.out]; rfl, hCr.out⟩
def LtInv2 (xs : List Cls) (n b base : Nat) (A0 : Option Addr) (c0 : Nat) (K : Int) (w1 : World) (ov iv : Value) (wr : World) : Prop := ∃ (k : Nat) (A : Option Addr) (c : Nat), k ≤ n ∧ iv = .int .i64 k ∧ ov = .slice A k c ∧ U8Row wr base A k c ((xs.map bytC).take k) ∧ Hid (∀ j, j < k → sizeC (xs.getD j 0) = 1) ∧ Blk wr b #[.slice A0 n c0, .int .i64 K] 34 ∧ Chg Nothing w1 wr
theorem refLetters_any (F : Nat → Prop) (A : Option Addr) (n c : Nat) (xs : List Cls) (K : Int) (w : World) (H : ClsRow F w A n c xs) (hl : xs.length = n) (hn9 : n ≤ 1000000000) :
  Calls Tryz.prog 107 #[.agg #[.slice A n c, .int .i64 K]] w fun e w' => e = .returned (.tuple (lettersV xs)) ∧ Chg Nothing w w' := by
 have HH := hid (fun (w' : World) (hc : Chg Nothing w w') => H.chg hc (fun _ _ _ h => h))
 have hlh := hid hl
 have hmx := H.max
 have hle := H.le
 have hX := hid (Blk.new w #[.slice A n c, .int .i64 K] 34)
 have hw0 := hid ((Chg.refl Nothing w).alloc (.cells #[.slice A n c, .int .i64 K] 34))
 have hWs := hid (show w.heap.size < (w.alloc (.cells #[.slice A n c, .int .i64 K] 34)).heap.size from by rw [World.size_alloc]; omega)
 clear H hl
 go_enter Tryz.func107, Tryz.ntmps107
 go_wp2_with fail
 generalize w.alloc (.cells #[.slice A n c, .int .i64 K] 34) = W at *
 go_loopw [4, 5] (fun ov iv wr => LtInv2 xs n w.heap.size W.heap.size A c K W ov iv wr) (fun _ iv _ => n - (intOf iv).toNat)
 case atStart => exact ⟨0, none, 0, Nat.zero_le _, rfl, rfl, World.ownsRow_nil _ _ _ _, hid (fun j hj => by omega), hX.out, Chg.refl _ _⟩
 case round =>
  obtain ⟨k, A1, c1, hk, rfl, rfl, hown, hall, hXr, hchg⟩ := hrel
  have x0 := hXr.cell 0 (v := .slice A n c) rfl
  have hxl := hXr.lt
  rcases Nat.lt_or_ge k n with hkn | hkn
  ·obtain ⟨g, o, rfl, -, hgl, c0, c1', c2, c3⟩ := ClsRow.four (HH.out _ (hw0.out.trans hchg)) hlh.out hkn
   have hk0 : (0 : Int) ≤ (k : Int) := by omega
   have hkI : (k : Int) < (n : Int) := by omega
   have htk := hid (byts_take xs k (by rw [hlh.out]; exact hkn))
   obtain ⟨y, hyd⟩ : ∃ y, y = xs.getD k 0 := ⟨_, rfl⟩
   rw [← hyd] at c0 c1' c2 c3 htk
   replace hyd := hid hyd
   have hCr := hid hchg
   have hOw := hid hown
   have hXq := hid hXr
   clear hchg hown hXr
   have hbad := hid (fun (h : ¬ sizeC y = 1) => (show lettersB xs = false from by
    rw [← Bool.not_eq_true, lettersB_iff]
    intro hh
    exact h (hyd.out ▸ hh k (by rw [hlh.out]; exact hkn))))
   by_cases h1 : sizeC y = 1
   ·have hSi := hid (fun w => (show Calls Tryz.prog 138 #[litC y] w fun e w' => e = .returned (.tuple #[.int .u8 (bytC y), .bool true]) ∧ Chg Nothing w w' from singleV_yes h1 ▸ refSingle_any y w))
    have hnx2 := hid (show ∀ j, j < k + 1 → sizeC (xs.getD j 0) = 1 from fun j hj => by
     by_cases hjk : j = k
     ·subst hjk; rw [← hyd.out]; exact h1
     ·exact hall.out j (by omega))
    clear h1
    generalize bytC y = b at hSi htk
    go_wp2_with fail
    refine (hSi.out _).mono ?_
    rintro e w4 ⟨rfl, hc4⟩
    have hC4 := hid (hCr.out.trans hc4)
    have hOw4 := hid (own_chg hOw.out hc4 (fun _ _ h => h))
    have hX4 := hid (hXq.out.chg hc4 id)
    clear c0 c1' c2 c3 hc4 x0
    go_wp2_with (at_builtin; refine append_one rfl _ _ 127 rfl W.heap.size 5 (.int .u8 0) 1 Tryz.underlying127 infoU8 rfl A1 c1 k _ rfl hOw4.out (.int .u8 b) rfl rfl ?_ ?_ ?_ ?_)
    ·omega
    ·omega
    ·exact hC4.out.size
    intro A' c' w6 hown6 hc6 hA6
    have hO6 := hid (show U8Row w6 W.heap.size A' (k + 1) c' ((xs.map bytC).take (k + 1)) from by rw [htk.out]; unfold U8Row; rw [List.map_append, List.map_take, List.map_map]; simpa using hown6)
    have oa6 := own_of hOw4.out
    have hC6 := hid (Chg.then hC4.out hc6 (fun i hi h => by have := oa6 _ h; omega))
    have hX6 := hid (hX4.out.chg hc6 (fun h => by have := oa6 _ h; have := hWs.out; omega))
    clear hown6 hc6 hA6 oa6
    go_wp2
    go_roundw
    case rel => exact ⟨k + 1, A', c', hkn, by go_num, rfl, hO6.out, hnx2, hX6.out, hC6.out⟩
    case measure => simp [intOf]; omega
   ·have hSi := hid (fun w => (show Calls Tryz.prog 138 #[litC y] w fun e w' => e = .returned (.tuple #[.int .u8 0, .bool false]) ∧ Chg Nothing w w' from singleV_no h1 ▸ refSingle_any y w))
    have hb := hid (hbad.out h1)
    clear h1
    go_wp2_with fail
    refine (hSi.out _).mono ?_
    rintro e w4 ⟨rfl, hc4⟩
    have hC4 := hid (hw0.out.trans (hCr.out.trans hc4))
    clear c0 c1' c2 c3 hc4 x0
    go_wp2
    go_ret2
    exact ⟨by unfold lettersV; rw [if_neg (by rw [hb.out]; decide)]; rfl, hC4.out⟩
  ·obtain rfl : n = k := by omega
   have hd : decide ((n : Int) < (n : Int)) = false := decide_eq_false (by omega)
   have hb := hid (show lettersB xs = true from by rw [lettersB_iff, hlh.out]; exact hall.out)
   have hCr := hid (hw0.out.trans hchg)
   have hcv := conv_own hown
   have hfin := hid (show strOfNums ((xs.map bytC).take n) = lettersS xs from by unfold lettersS; rw [List.take_of_length_le (by simp; rw [hlh.out]; omega)])
   rw [hfin.out] at hcv
   clear hchg hall hown hXr
   go_wp2
   go_ret2
   exact ⟨by unfold lettersV; rw [if_pos hb.out]; rfl, hCr.out⟩
end Go.Proofs.YtoelilejohfglaaGreat
namespace Go.Proofs.YtoelilejohfglaaGreat
open Go.RowKit
set_option linter.unusedVariables false
set_option linter.unusedSimpArgs false
section
variable {P : Program} {F : Fence} {n : Nat} {α : Type}
theorem wpIn_range_gives2 {g : Operand} {ps : Array Tmp} {assign body : Code} {Q : Exit → Act → World → Prop} {a : Act} {w : World}
  (hro : F.round = none) (h1 : 1 ≤ n) {gf : Nat} {lb : Array Value} (hg : a.eval g = .func (.func gf) #[] lb) (hFg : F.fn gf) (eg : ∀ args w, (callFunc gf args).run P w = .ok (.enter gf args) w)
  {encs : α → Array Value} (hps : ∀ x, (encs x).size = ps.size) {S : Nat → Prop} {G : List α → α → World → Prop} {E X : List α → Prop} (hS : ∀ k, S k → k ≠ w.heap.size ∧ k ≠ w.heap.size + 1)
  (hseq : ∀ w1, Chg Nothing w w1 → w.heap.size + 2 ≤ w1.heap.size → Gives F (n - 1) P gf lb encs (fun k => S k ∨ k = w.heap.size ∨ k = w.heap.size + 1) G E X w1)
  (I : List α → World → Prop) (Ix : Code → List α → World → Prop) (hI : ∀ xs, Stays w.heap.size (I xs)) (hIx : ∀ c xs, Stays w.heap.size (Ix c xs)) (hG : ∀ pre x, Stays w.heap.size (G pre x)) (h0 : I [] w) (a₁ : α → Act)
  (hassign : ∀ (l : Nat) (x : α) (W : World) (K : Act → World → Prop), K (a₁ x) W →
   assign.wpIn (F.inRound l) (n - 1 - 1) P (Exit.then K (fun _ _ _ => False)) { tmps := (ps.zip (encs x)).foldl (fun t (p, v) => t.setIfInBounds p v) a.tmps, defers := [] } W)
  (hbody : ∀ (l : Nat) (pre : List α) (x : α) (W : World), I pre W → G pre x W → body.wpIn (F.inRound l) (n - 1 - 1) P (leftBy S I Ix (pre ++ [x]) W) (a₁ x) W)
  (hdone : ∀ (D : Nat) (xs : List α) (W : World), w.heap.size ≤ D → E xs → I xs W → W.heap[D]? = some (.deferred (some [])) → Q .normal { a with defers := { target := .collected D, args := #[] } :: a.defers } W)
  (hstop : ∀ (D : Nat) (c : Code) (pre : List α) (W : World), w.heap.size ≤ D → X pre → Ix c pre W → W.heap[D]? = some (.deferred (some [])) → c.wpIn F n P Q { a with defers := { target := .collected D, args := #[] } :: a.defers } W) :
  (Code.rangeFunc g ps assign body).wpIn F n P Q a w := by
 refine wpIn_rangeFunc ?_
 intro fn hfn
 rw [hro]
 obtain ⟨rec, hrec⟩ : ∃ rec : LoopState → Option Code → Loop, rec = fun st pe => { state := st, pending := pe, fn, tmps := a.tmps, params := ps, assign, body, defers := w.heap.size } := ⟨_, rfl⟩
 obtain ⟨W1, hW1⟩ : ∃ W1, (w.alloc (.deferred (some []))).alloc (.loop (rec .ready none)) = W1 := ⟨_, rfl⟩
 have hcW : Chg Nothing w W1 := hW1 ▸ ((Chg.refl Nothing w).alloc _).alloc _
 have hl0 : W1.heap[w.heap.size + 1]? = some (.loop (rec .ready none)) := by
  have := World.alloc_heap_new (w.alloc (.deferred (some []))) (.loop (rec .ready none)); rw [World.size_alloc, hW1] at this; exact this
 have hd0 : W1.heap[w.heap.size]? = some (.deferred (some [])) := by
  rw [← hW1]; exact (Below.heap_alloc _ _ _ (by simp)).trans (World.alloc_heap_new w _)
 refine ⟨w.heap.size + 1, [{ target := .collected w.heap.size, args := #[] }], W1, { target := .fn (.func gf) lb, args := #[.func (.yield (w.heap.size + 1)) #[] #[]] }, W1, gf,
  #[.func (.yield (w.heap.size + 1)) #[] #[]] ++ lb, W1, by rw [← hW1, hrec]; exact run_enterLoop_outer _ _ _ _ _, ?_, ?_, ?_, fun _ => h1, ?_⟩
 ·simp only [resolve, hg]
  simp [go_sem]
 ·intro f' hf'; simp [Target.leads] at hf'; subst hf'; exact hFg
 ·simp [invoke, go_sem, eg]
 have keep : ∀ {W W' : World} {k : Nat} {o : Obj}, Chg S W W' → (k = w.heap.size ∨ k = w.heap.size + 1) → W.heap[k]? = some o → W'.heap[k]? = some o := fun h hk ho =>
  (h.block _ (Array.getElem?_eq_some_iff.1 ho).1 (fun e => by have := hS _ e; omega)).trans ho
 refine (hseq W1 hcW (by rw [← hW1]; simp only [World.size_alloc]; omega) (w.heap.size + 1)
  (fun pre W => I pre W ∧ W.heap[w.heap.size + 1]? = some (.loop (rec .ready none)) ∧ W.heap[w.heap.size]? = some (.deferred (some [])))
  (fun pre W => ∃ c, Ix c pre W ∧ W.heap[w.heap.size + 1]? = some (.loop (rec .done (some c))) ∧ W.heap[w.heap.size]? = some (.deferred (some []))) W1 (Chg.refl _ _)
  (fun pre A C hc ⟨h1, h2, h3⟩ => ⟨(hI pre).calm hc h1, (hc.block _ (Array.getElem?_eq_some_iff.1 h2).1 id).trans h2, (hc.block _ (Array.getElem?_eq_some_iff.1 h3).1 id).trans h3⟩)
  (fun pre A C hc ⟨c, h1, h2, h3⟩ => ⟨c, (hIx c pre).calm hc h1, (hc.block _ (Array.getElem?_eq_some_iff.1 h2).1 id).trans h2, (hc.block _ (Array.getElem?_eq_some_iff.1 h3).1 id).trans h3⟩)
  ?_ ⟨(hI []).calm hcW h0, hl0, hd0⟩).mono ?_
 ·rintro pre x W - ⟨hi, hl, hk⟩ hgx
  have hlt : w.heap.size + 1 < W.heap.size := (Array.getElem?_eq_some_iff.1 hl).1
  have hy := run_yield (P := P) (args := encs x) hl (by rw [hrec]; exact hps x)
  rw [hrec] at hy
  refine ⟨fn, _, assign, body, hy, roundIn_of_wpIn hfn (hassign _ x W _ ⟨_, run_beginRound hl (by rw [hrec]), ?_⟩)⟩
  obtain ⟨Wb, hWb⟩ : ∃ Wb, W.putObj (w.heap.size + 1) (.loop { rec .ready none with state := .busy }) = Wb := ⟨_, rfl⟩
  have hcb : Chg (fun j => j = w.heap.size + 1) W Wb := hWb ▸ chg_put W _ _
  have hlb : Wb.heap[w.heap.size + 1]? = some (.loop { rec .ready none with state := .busy }) := hWb ▸ World.putObj_heap_same hlt
  have hkb : Wb.heap[w.heap.size]? = some (.deferred (some [])) := hWb ▸ (World.putObj_heap_other (by omega)).trans hk
  have hib : I pre Wb := hWb ▸ (hI pre).put (by omega) hl rfl hi
  have hgb : G pre x Wb := hWb ▸ (hG pre x).put (by omega) hl rfl hgx
  rw [hWb]
  refine wpIn_mono (hbody _ pre x Wb hib hgb) ?_
  have over : ∀ (jump : Option Code) (W3 : World), Chg S Wb W3 → ∃ W4, (Instr.endRound (w.heap.size + 1) jump).run P W3 = .ok (.bool jump.isNone) W4 ∧ (∀ J : World → Prop, Stays w.heap.size J → J W3 → J W4) ∧
    W4.heap[w.heap.size + 1]? = some (.loop (rec (if jump.isNone then .ready else .done) jump)) ∧ W4.heap[w.heap.size]? = some (.deferred (some [])) ∧ Chg (fun k => S k ∨ k = w.heap.size ∨ k = w.heap.size + 1) W W4 := fun jump W3 hc3 => by
   have hl3 := keep hc3 (by omega) hlb
   have hr := run_endRound (P := P) jump hl3
   refine ⟨_, hr, fun J hJ hj => hJ.put (by omega) hl3 rfl hj, ?_, (World.putObj_heap_other (by omega)).trans (keep hc3 (by omega) hkb), ?_⟩
   ·rw [World.putObj_heap_same (Array.getElem?_eq_some_iff.1 hl3).1, hrec]
   ·exact (hcb.mono (fun k _ e => .inr (.inr e))).trans ((hc3.mono (fun k _ e => .inl e)).trans ((chg_put W3 _ _).mono (fun k _ e => .inr (.inr e))))
  rintro e a3 W3 hp
  cases e with
  | normal =>
   obtain ⟨hc3, hi3⟩ := hp
   obtain ⟨W4, hr, hst, hl4, hk4, hc4⟩ := over none W3 hc3
   exact ⟨_, _, hr, .inl ⟨rfl, ⟨hst _ (hI _) hi3, hl4, hk4⟩, hc4⟩⟩
  | ret =>
   obtain ⟨hc3, hi3⟩ := hp
   obtain ⟨W4, hr, hst, hl4, hk4, hc4⟩ := over (some .ret) W3 hc3
   exact ⟨_, _, hr, .inr ⟨rfl, .ret, hst _ (hIx _ _) hi3, hl4, hk4⟩⟩
  | exit id =>
   obtain ⟨hc3, hi3⟩ := hp
   obtain ⟨W4, hr, hst, hl4, hk4, hc4⟩ := over (some (.exit id)) W3 hc3
   exact ⟨_, _, hr, .inr ⟨rfl, .exit id, hst _ (hIx _ _) hi3, hl4, hk4⟩⟩
  | goto t =>
   obtain ⟨hc3, hi3⟩ := hp
   obtain ⟨W4, hr, hst, hl4, hk4, hc4⟩ := over (some (.goto t)) W3 hc3
   exact ⟨_, _, hr, .inr ⟨rfl, .goto t, hst _ (hIx _ _) hi3, hl4, hk4⟩⟩
  | panic ch => exact hp.elim
  | outgrown => exact hp.elim
 ·rintro e W2 ⟨⟨v, rfl⟩, (⟨xs, hE, hi, hl, hk⟩ | ⟨pre, hX, c, hi, hl, hk⟩)⟩
  ·exact ⟨none, _, by have := run_endLoop (P := P) hl (by rw [hrec]; simp); rw [hrec] at this; exact this, hdone _ xs _ (Nat.le_refl _) hE ((hI xs).put (by omega) hl rfl hi) ((World.putObj_heap_other (by omega)).trans hk)⟩
  ·exact ⟨some c, _, by have := run_endLoop (P := P) hl (by rw [hrec]; simp); rw [hrec] at this; exact this, hstop _ c pre _ (Nat.le_refl _) hX ((hIx c pre).put (by omega) hl rfl hi) ((World.putObj_heap_other (by omega)).trans hk)⟩
end
end Go.Proofs.YtoelilejohfglaaGreat
namespace Go.Proofs.YtoelilejohfglaaGreat
open Go.RowKit
set_option linter.unusedVariables false
set_option linter.unusedSimpArgs false
theorem missTo_mono (xs : List Cls) (s : ByteArray) (i : Nat) {j m : Nat} (h : j ≤ m) : missTo xs s i j ≤ missTo xs s i m := by
 induction h with
 | refl => exact Int.le_refl _
 | @step q h ih =>
  rw [missTo_succ]
  have : 0 ≤ missB xs s i q := by unfold missB; split <;> omega
  exact Int.le_trans ih (by omega)
def missUp (xs : List Cls) (s : ByteArray) (i : Nat) (most : Int) : Nat → Int
 | 0 => 0
 | j + 1 => if most < missUp xs s i most j then missUp xs s i most j else missUp xs s i most j + missB xs s i j
theorem missUp_eq {xs : List Cls} {s : ByteArray} {i : Nat} {most : Int} : ∀ {j : Nat}, missTo xs s i j ≤ most → missUp xs s i most j = missTo xs s i j ∧ missUp xs s i most (j + 1) = missTo xs s i (j + 1)
 | 0, h => by
  have h0 : missTo xs s i 0 = 0 := rfl
  rw [h0] at h
  refine ⟨rfl, ?_⟩
  unfold missUp missUp
  rw [if_neg (by omega), missTo_succ, h0]
 | j + 1, h => by
  have hj : missTo xs s i j ≤ most := Int.le_trans (missTo_mono xs s i (Nat.le_succ j)) h
  have ih := (missUp_eq hj).2
  refine ⟨ih, ?_⟩
  conv => lhs; unfold missUp
  rw [ih, if_neg (by omega), missTo_succ xs s i (j + 1)]
theorem missUp_over {xs : List Cls} {s : ByteArray} {i : Nat} {most : Int} {j : Nat} (h : most < missUp xs s i most j) : ∀ {m : Nat}, j ≤ m → missUp xs s i most m = missUp xs s i most j := by
 intro m hm
 induction hm with
 | refl => rfl
 | @step q hq ih =>
  conv => lhs; unfold missUp
  rw [ih, if_pos h]
def MsInv (xs : List Cls) (s : ByteArray) (i n : Nat) (most : Int) (w1 : World) (nv jv : Value) (wr : World) : Prop := ∃ (j : Nat), j ≤ n ∧ jv = .int .i64 j ∧ nv = .int .i64 (missTo xs s i j) ∧ Hid (missTo xs s i j ≤ most) ∧ Chg Nothing w1 wr
def MissAns (xs : List Cls) (s : ByteArray) (i n : Nat) (most v : Int) : Prop := (v ≤ most ↔ missN xs s i ≤ most) ∧ ((n : Int) ≤ most → v = missN xs s i)
theorem naiveMisses_any (F : Nat → Prop) (A : Option Addr) (n c : Nat) (xs : List Cls) (K : Int) (s : ByteArray) (i : Nat) (most : Int) (w : World) (H : ClsRow F w A n c xs) (hl : xs.length = n) (hs : s.size ≤ 1000000000) (hin : i + n ≤ s.size) (hm0 : 0 ≤ most) :
    Calls Tryz.prog 140 #[.agg #[.slice A n c, .int .i64 K], .string s, .int .i64 i, .int .i64 most] w fun e w' => (e = .returned (.int .i64 (missUp xs s i most n)) ∧ MissAns xs s i n most (missUp xs s i most n)) ∧ Chg Nothing w w' := by
  have hX := Blk.new w #[.slice A n c, .int .i64 K] 34
  have x0 := hX.cell 0 (v := .slice A n c) rfl
  have hc0 := hid ((Chg.refl Nothing w).alloc (.cells #[.slice A n c, .int .i64 K] 34))
  have HH := hid (fun (w' : World) (hc : Chg Nothing w w') => H.chg hc (fun _ _ _ h => h))
  have hlh := hid hl
  have hmx := H.max
  have hle := H.le
  clear hX H hl
  go_enter Tryz.func140, Tryz.ntmps140
  go_wp2
  go_step3
  go_wp2
  go_step3
  go_wp2
  generalize w.alloc (.cells #[.slice A n c, .int .i64 K] 34) = W at *
  go_loopw [9, 15] (fun nv jv wr => MsInv xs s i n most W nv jv wr) (fun _ jv _ => n - (intOf jv).toNat)
  case atStart => exact ⟨0, Nat.zero_le _, rfl, rfl, hid hm0, Chg.refl _ _⟩
  case round =>
    obtain ⟨j, hj, rfl, rfl, hsm, hchg⟩ := hrel
    rcases Nat.lt_or_ge j n with hjn | hjn
    · obtain ⟨g, o, rfl, -, hgl, c0, c1', c2, c3⟩ := ClsRow.four (HH.out _ (hc0.out.trans hchg)) hlh.out hjn
      have hj0 : (0 : Int) ≤ (j : Int) := by omega
      have hjI : (j : Int) < (n : Int) := by omega
      obtain ⟨y, hyd⟩ : ∃ y, y = xs.getD j 0 := ⟨_, rfl⟩
      rw [← hyd] at c0 c1' c2 c3
      have hij : i + j < s.size := by omega
      have h256 : s[i + j].toNat < 256 := UInt8.toNat_lt _
      have hms := hid (show missB xs s i j = if y.getLsbD (s[i + j].toNat) = true then 0 else 1 from by unfold missB; rw [Array.getElem?_eq_getElem hij, ← hyd]; rfl)
      have hmt := missTo_bound xs s i j
      have hsu := hid (missTo_succ xs s i j)
      have hmo := hid (missTo_mono xs s i (show j + 1 ≤ n from hjn))
      have hall := hid (show missTo xs s i n = missN xs s i from by rw [← hlh.out]; rfl)
      obtain ⟨b, hb⟩ : ∃ b, y.getLsbD (s[i + j].toNat) = b := ⟨_, rfl⟩
      rw [hb] at hms
      have hH := hid (fun (nn : World) => (show Calls Tryz.prog 158 #[litC y, .int .u8 ((s[i + j].toNat : Nat) : Int)] nn fun e w' => e = .returned (.bool b) ∧ Chg Nothing nn w' from hb ▸ classHas_any y (s[i + j].toNat) nn (by omega)))
      obtain ⟨mt, hmtd⟩ : ∃ mt, mt = missTo xs s i j := ⟨_, rfl⟩
      rw [← hmtd] at hmt hsu hsm ⊢
      have hz := Blk.new wr #[.int .u64 0, .int .u64 0, .int .u64 0, .int .u64 0] 84
      have hZ := hid hz
      have hCr := hid hchg
      have hin2 : (i : Int) + (j : Int) < (s.size : Int) := by omega
      have hw1 : IntKind.i64.wrap ((i : Int) + (j : Int)) = (i : Int) + (j : Int) := by rw [IntKind.wrap_i64]; omega
      have htn : ((i : Int) + (j : Int)).toNat = i + j := by omega
      have hix : ∀ W, (Instr.index 9 (.string s) (.int .i64 ((i : Int) + (j : Int)))).run Tryz.prog W = .ok (.int .u8 ((s[i + j].toNat : Nat) : Int)) W := fun W => by
        rw [run_index_string (h := Tryz.underlying9), dif_pos ⟨by omega, hin2⟩]
        simp only [htn]
      have hmtd2 := hid hmtd
      clear hb hz hchg hyd hmtd htn
      go_wp2_with (with_reducible refine halt_op (.store 84 (.tmp 11) (.tmp 19)) ?_)
      unfold Halted
      refine store_blk rfl 84 (.tmp 11) (.tmp 19) (by rfl) _ (by rfl) _ (by rfl) hZ.out (by rfl) (by exact sizeCls) (by rfl) ?_
      intro w3 hB3 hc3
      have hcz := hid (((Chg.refl Nothing wr).alloc (.cells #[.int .u64 0, .int .u64 0, .int .u64 0, .int .u64 0] 84)).then hc3 (fun i hi h => absurd (show i = wr.heap.size from h) (by omega)))
      have hC3 := hid (hCr.out.trans hcz.out)
      obtain ⟨r0, r1, r2, r3, -, -, -, -, hlt1⟩ := CBox.at_ (show CBox w3 wr.heap.size y from hB3)
      have hBx := hid (show CBox w3 wr.heap.size y from hB3)
      have hS := hid (fun (w' : World) (hc : Chg Nothing w3 w') => (show w'.cell? ⟨wr.heap.size, 0, none⟩ = some (.int .u64 (wd y 0)) ∧ w'.cell? ⟨wr.heap.size, 1, none⟩ = some (.int .u64 (wd y 1)) ∧ w'.cell? ⟨wr.heap.size, 2, none⟩ = some (.int .u64 (wd y 2)) ∧ w'.cell? ⟨wr.heap.size, 3, none⟩ = some (.int .u64 (wd y 3)) from by
        obtain ⟨q0, q1, q2, q3, -⟩ := CBox.at_ (hBx.out.chg hc id)
        exact ⟨q0, q1, q2, q3⟩))
      have hcur := hid ((Chg.refl Nothing w3).drew)
      clear hB3 hc3 hZ hcz hCr c0 c1' c2 c3 r0 r1 r2 r3 hlt1
      go_wp2_with fail
      go_region_held3 (fun w' => w'.cell? ⟨wr.heap.size, 0, none⟩ = some (.int .u64 (wd y 0)) ∧ w'.cell? ⟨wr.heap.size, 1, none⟩ = some (.int .u64 (wd y 1)) ∧ w'.cell? ⟨wr.heap.size, 2, none⟩ = some (.int .u64 (wd y 2)) ∧ w'.cell? ⟨wr.heap.size, 3, none⟩ = some (.int .u64 (wd y 3)))
        (exact hS.out _ hcur.out)
        (first | (go_at_call 158; with_reducible refine (hH.out _).mono ?_; rintro e w4 ⟨rfl, hc4⟩; replace hcur := hid (hcur.out.trans hc4); replace hc4 := hid hc4))
      all_goals
       have hC4 := hid (hC3.out.trans hcur.out)
       clear hS hcur hc4 hBx
       cases b with
       | true =>
         have hsu2 := hid (show missTo xs s i (j + 1) = mt from by rw [hsu.out, hms.out]; simp)
         have hgt : decide (most < mt) = false := decide_eq_false (by have := hsm.out; omega)
         go_wp2
         go_roundw
         case rel => exact ⟨j + 1, hjn, by go_num, by rw [hsu2.out], hid (by rw [hsu2.out]; exact hsm.out), hC4.out⟩
         case measure => simp [intOf]; omega
       | false =>
         have hsu2 := hid (show missTo xs s i (j + 1) = mt + 1 from by rw [hsu.out, hms.out]; simp)
         have hwm : IntKind.i64.wrap (mt + 1) = mt + 1 := by rw [IntKind.wrap_i64]; omega
         by_cases hg : most < mt + 1
         · have hgt : decide (most < mt + 1) = true := decide_eq_true hg
           have hup := hid (show missUp xs s i most n = mt + 1 from by
             have h1 := (missUp_eq (j := j) (by rw [← hmtd2.out]; exact hsm.out)).2
             rw [hsu2.out] at h1
             rw [← h1]
             exact missUp_over (by rw [h1]; omega) hjn)
           have hans := hid (show MissAns xs s i n most (mt + 1) from by
             have h1 := hmo.out
             rw [hsu2.out, hall.out] at h1
             refine ⟨⟨fun h => by omega, fun h => by omega⟩, fun h => ?_⟩
             omega)
           have hC5 := hid (hc0.out.trans hC4.out)
           clear hg
           go_wp2
           try rw [Exit.noGoto_ret]
           go_ret
           exact ⟨⟨by rw [hup.out]; rfl, by rw [hup.out]; exact hans.out⟩, hC5.out⟩
         · have hgt : decide (most < mt + 1) = false := decide_eq_false hg
           have hg2 := hid (show mt + 1 ≤ most from by omega)
           clear hg
           go_wp2
           go_roundw
           case rel => exact ⟨j + 1, hjn, by go_num, by rw [hsu2.out]; try go_num, hid (by rw [hsu2.out]; exact hg2.out), hC4.out⟩
           case measure => simp [intOf]; omega
    · obtain rfl : j = n := by omega
      have hd : decide ((j : Int) < (j : Int)) = false := decide_eq_false (by omega)
      have hm := hid (show missTo xs s i j = missN xs s i from by rw [← hlh.out]; rfl)
      rw [hm.out] at hsm
      rw [hm.out]
      have hCr := hid (hc0.out.trans hchg)
      have hup := hid (show missUp xs s i most j = missN xs s i from by rw [(missUp_eq (by rw [hm.out]; exact hsm.out)).1, hm.out])
      have hans := hid (show MissAns xs s i j most (missN xs s i) from ⟨Iff.rfl, fun _ => rfl⟩)
      clear hchg
      go_wp2
      try rw [Exit.noGoto_ret]
      go_ret
      exact ⟨⟨by rw [hup.out]; rfl, by rw [hup.out]; exact hans.out⟩, hCr.out⟩
structure NBoxes (w : World) (lb fb tb : Nat) (A : Option Addr) (n c : Nat) (K : Int) (s : ByteArray) : Prop where
 leaf : Blk w lb #[.slice A n c, .int .i64 K] 34
 from_ : Blk w fb #[.int .i64 0] 3
 text : Blk w tb #[.string s] 9
theorem NBoxes.chg {S : Nat → Prop} {w w' : World} {lb fb tb : Nat} {A : Option Addr} {n c : Nat} {K : Int} {s : ByteArray} (h : NBoxes w lb fb tb A n c K s) (hc : Chg S w w') (h1 : ¬ S lb) (h2 : ¬ S fb) (h3 : ¬ S tb) : NBoxes w' lb fb tb A n c K s := ⟨h.leaf.chg hc h1, h.from_.chg hc h2, h.text.chg hc h3⟩
theorem naivePlaces_any (A : Option Addr) (n c : Nat) (K : Int) (s : ByteArray) (w : World) :
  Calls Tryz.prog 139 #[.agg #[.slice A n c, .int .i64 K], .string s, .int .i64 0] w fun e w' => e = .returned (.func (.func 160) #[] #[.pointer (some ⟨w.heap.size, 0, none⟩), .pointer (some ⟨w.heap.size + 2, 0, none⟩), .pointer (some ⟨w.heap.size + 1, 0, none⟩)]) ∧ NBoxes w' w.heap.size (w.heap.size + 2) (w.heap.size + 1) A n c K s ∧ w'.heap.size = w.heap.size + 3 ∧ Chg Nothing w w' := by
 go_enter Tryz.func139, Tryz.ntmps139
 go_wp2
 go_ret
 refine ⟨rfl, ⟨((Blk.new w _ _).alloc _).alloc _, ?_, ?_⟩, by simp only [World.size_alloc], (((Chg.refl _ _).alloc _).alloc _).alloc _⟩
 ·have := Blk.new ((w.alloc (.cells #[.slice A n c, .int .i64 K] 34)).alloc (.cells #[.string s] 9)) #[.int .i64 0] 3
  rwa [World.size_alloc, World.size_alloc] at this
 ·have := (Blk.new (w.alloc (.cells #[.slice A n c, .int .i64 K] 34)) #[.string s] 9).alloc (.cells #[.int .i64 0] 3)
  rwa [World.size_alloc] at this
def nEnc (x : Nat) : Array Value := #[.int .i64 x]
def nTell (lo N : Nat) (pre : List Nat) (x : Nat) (W : World) : Prop := x = pre.length ∧ pre.length < N ∧ lo ≤ W.heap.size
def NdInv (S : Nat → Prop) (w2 : World) (N : Nat) (J : List Nat → World → Prop) (iv : Value) (wr : World) : Prop := ∃ (k : Nat) (pre : List Nat), k ≤ N ∧ iv = .int .i64 k ∧ pre.length = k ∧ Hid (J pre wr) ∧ Chg S w2 wr
theorem naive_gives (n0 : Nat) (hn0 : 1 ≤ n0) (F : Nat → Prop) (A : Option Addr) (n c : Nat) (xs : List Cls) (K : Int) (s : ByteArray) (lb fb tb lo : Nat) (w : World) (hlo : lo ≤ w.heap.size) (S : Nat → Prop) (H : ClsRow F w A n c xs) (hl : xs.length = n) (hs : s.size ≤ 100000000)
  (hB : NBoxes w lb fb tb A n c K s) (hF : ∀ k, k < w.heap.size → F k → ¬ S k) (hS1 : ¬ S lb) (hS2 : ¬ S fb) (hS3 : ¬ S tb) :
  Gives Fence.wide n0 Tryz.prog 160 #[.pointer (some ⟨lb, 0, none⟩), .pointer (some ⟨fb, 0, none⟩), .pointer (some ⟨tb, 0, none⟩)] nEnc S (nTell lo (sumsN xs K s.size)) (fun ys => ys.length = sumsN xs K s.size) (fun _ => True) w := by
 intro l J Jx W hW hJ hJx hY h0
 refine callsIn_wide.2 ?_
 have hB0 := hB.chg hW id id id
 have x0 := hB0.leaf.cell 0 (v := .slice A n c) rfl
 have x1 := hB0.leaf.cell 1 (v := .int .i64 K) rfl
 have hR := hid (leafRight_any F A n c xs K W (H.chg hW (fun _ _ _ h => h)) hl)
 have hsn : sumsN xs K s.size = if rightB xs K = true then s.size + 1 - n else 0 := by unfold sumsN; rw [hl]
 have hr64 : rightB xs K = true → 1 ≤ n := fun h => by have := (right_len h).1; omega
 have hBh := hid hB0
 have hYh := hid hY
 have hJh := hid hJ
 have h0h := hid h0
 have hWs := hid (show Chg S w W from hW.mono (fun _ _ h => h.elim))
 have hmx := H.max
 have hle := H.le
 obtain ⟨N, hN⟩ : ∃ N, N = sumsN xs K s.size := ⟨_, rfl⟩
 rw [← hN] at hsn hYh ⊢
 clear H hY hJ hJx h0 hW hB0 hN
 cases hr : rightB xs K with
 | false =>
  rw [hr] at hR hsn
  rw [if_neg (by decide)] at hsn
  subst hsn
  clear hr64
  go_enter Tryz.func160, Tryz.ntmps160
  go_wp2_with fail
  refine hR.out.mono ?_
  rintro e w2 ⟨rfl, hc2⟩
  have hJ2 := hid (hJh.out _ _ _ hc2 h0h.out)
  clear hc2
  go_wp2
  refine bodyPost_ret (results_none rfl _ _ _) rfl ?_
  exact ⟨⟨_, rfl⟩, .inl ⟨[], rfl, hJ2.out⟩⟩
 | true =>
  rw [hr] at hR hsn
  rw [if_pos rfl] at hsn
  have h1n := hr64 hr
  clear hr64 hr
  replace hsn := hid hsn
  have hN9 : N ≤ 100000001 := by have := hsn.out; omega
  have hwsn : IntKind.i64.wrap ((s.size : Int) - (n : Int)) = (s.size : Int) - (n : Int) := by have := hsn.out; rw [IntKind.wrap_i64]; omega
  go_enter Tryz.func160, Tryz.ntmps160
  go_wp2_with fail
  refine hR.out.mono ?_
  rintro e w2 ⟨rfl, hc2⟩
  have hC2 := hid (hWs.out.trans (hc2.mono (T := S) (fun _ _ h => h.elim)))
  have hB2 := hid (hBh.out.chg hc2 id id id)
  have hJ2 := hid (hJh.out _ _ _ hc2 h0h.out)
  have f0 := hB2.out.from_.cell 0 (v := .int .i64 0) rfl
  clear hc2 x0 x1 hR hBh h0h hWs
  go_wp2_with fail
  go_loopw [5] (fun iv wr => NdInv S w2 N J iv wr) (fun iv _ => N - (intOf iv).toNat)
  case atStart => exact ⟨0, [], Nat.zero_le _, by simp, rfl, hid hJ2.out, Chg.refl _ _⟩
  case round =>
   obtain ⟨k, pre, hk, rfl, hpl, hJr, hchg⟩ := hrel
   have hBr := hB2.out.chg hchg hS1 hS2 hS3
   have x0 := hBr.leaf.cell 0 (v := .slice A n c) rfl
   have x2 := hBr.text.cell 0 (v := .string s) rfl
   rcases Nat.lt_or_ge k N with hkn | hkn
   ·have hk0 : (0 : Int) ≤ (k : Int) := by omega
    have hkI : decide ((k : Int) ≤ (s.size : Int) - (n : Int)) = true := decide_eq_true (by have := hsn.out; omega)
    have hCr := hid hchg
    have hCw := hid (hC2.out.trans hchg)
    obtain ⟨fn, tmps, assign, body, hy, hR⟩ := hYh.out pre k wr hCw.out hJr.out ⟨hpl.symm, by rw [hpl]; exact hkn, Nat.le_trans hlo hCw.out.size⟩
    unfold nEnc at hy
    have hRh := hid hR
    have hwk : IntKind.i64.wrap ((k : Int) + 1) = (k : Int) + 1 := by rw [IntKind.wrap_i64]; omega
    clear hR hBr hchg
    refine (wpIn_wide (n := n0)).1 ?_
    gi_wp2
    refine hRh.out.mono ?_
    rintro e W3 (⟨rfl, hJ3', hk3⟩ | ⟨rfl, hJx3⟩)
    ·have hC4 := hid (hCr.out.trans hk3)
     have hJ4 := hid (show Hid (J (pre ++ [k]) W3) from hid hJ3')
     clear hJ3' hk3
     gi_wp2
     try go_wp2
     go_roundw
     case rel => exact ⟨k + 1, pre ++ [k], hkn, by go_num, by rw [List.length_append, hpl]; rfl, hJ4.out, hC4.out⟩
     case measure => simp [intOf]; omega
    ·have hJx4 := hid hJx3
     clear hJx3
     gi_wp2
     try go_wp2
     refine bodyPost_ret (results_none rfl _ _ _) rfl ?_
     exact ⟨⟨_, rfl⟩, .inr ⟨_, trivial, hJx4.out⟩⟩
   ·obtain rfl : k = N := by omega
    have hkI : decide ((k : Int) ≤ (s.size : Int) - (n : Int)) = false := decide_eq_false (by have := hsn.out; omega)
    have hJ4 := hid (show (∃ ys : List Nat, ys.length = k ∧ J ys wr) from ⟨pre, hpl, hJr.out⟩)
    clear hchg hJr hBr
    go_wp2
    go_end0
    exact ⟨⟨_, rfl⟩, .inl hJ4.out⟩
end Go.Proofs.YtoelilejohfglaaGreat
namespace Go.Proofs.YtoelilejohfglaaGreat
open Go.RowKit
set_option linter.unusedVariables false
set_option linter.unusedSimpArgs false
open Go.RowKit Go.Shelf
attribute [local go_sem] Oper.semAt_some
section
variable {P : Program} {ops : Array Oper} {Q : Exit → Act → World → Prop} {md : Region.Mode} {n : Nat} {C : World → Prop}
theorem wpAnyIn_quiet {Q' : Act → Prop} (hQ : ∀ a w, C w → Q' a → Q .normal a w) : ∀ (fuel : Nat) (listed : Array Bool) (a : Act) (w : World), wpAnyQ P md ops C Q' fuel listed a → C w → wpAnyIn Fence.wide n P md ops Q fuel listed a w
 | 0, listed, a, w, h, hC => ⟨h.1, hQ _ _ hC h.2⟩
 | fuel + 1, listed, a, w, h, hC => ⟨fun hr => hQ _ _ hC (h.1 hr), fun i hi => by
  have hq := h.2 i hi
  unfold qOp at hq
  unfold wpOpIn
  cases ho : ops[i]? with
  | none =>
   simp only [ho] at hq ⊢
   exact wpAnyIn_quiet hQ fuel _ _ _ hq hC
  | some o =>
   simp only [ho] at hq ⊢
   split
   ·rename_i hw
    rw [if_pos hw] at hq
    exact wpIn_of_quiet hC (fun a' w' hC' hh => wpAnyIn_quiet hQ fuel _ _ _ hh hC') hq
   ·rename_i hw
    rw [if_neg hw] at hq
    exact ⟨fun _ _ => trivial, wpAnyIn_quiet hQ fuel _ _ _ hq hC⟩⟩
theorem wpIn_region_calm_round {l id : Nat} {lst : List Oper} {a : Act} {w : World} (hm : P.follows .mixedOrders = true) (hd : noDefer lst.toArray = true) (hB : Region.lexB .any lst.toArray = true) (hC : C w.drew)
  (h : wpQuiet P lst.toArray C (fun a' => ∀ w', C w' → Q .normal a' w') lst a) : (Code.region id lst.toArray true).wpIn (Fence.wide.inRound l) n P Q a w := by
 simp only [Region.lexB, Bool.and_eq_true] at hB
 refine wpIn_region_round hm hd (wpAnyIn_quiet (C := C) (Q' := fun a' => ∀ w', C w' → Q .normal a' w') (fun _ w' hw' h => h w' hw') _ _ _ _ ?_ hC)
 have := wpAnyQ_lex (md := .any) (P := P) (C := C) hB.1 lst.toArray.toList 0 (Array.replicate lst.toArray.size false) a (by simp) (by simpa using hB.2) (by simpa using h)
 simpa using this
end
def NaS (bO B : Nat) : Nat → Prop := fun k => k = bO ∨ B + 2 ≤ k
def NaI (bO : Nat) (w4 : World) (g : Nat → List Int) (pre : List Nat) (W : World) : Prop := ∃ A c, Blk W bO #[.slice A (g pre.length).length c] 37 ∧ IRow W (w4.heap.size + 2) A (g pre.length).length c (g pre.length) ∧ Chg (NaS bO w4.heap.size) w4 W
theorem NaI_stays (bO : Nat) (w4 : World) (g : Nat → List Int) (h1 : bO < w4.heap.size) (pre : List Nat) : Stays w4.heap.size (NaI bO w4 g pre) := fun X Y T hb hc ⟨A, c, i1, i2, i3⟩ =>
 ⟨A, c, i1.chg hc (fun e => by have := (hb _ e).1; omega), own_chg i2 hc (fun k hk e => by
  obtain ⟨-, o, ho, hcc⟩ := hb _ e
  obtain ⟨o', ho', hcc'⟩ := own_cells i2 k hk
  rw [ho] at ho'
  obtain rfl := Option.some.inj ho'
  rw [hcc] at hcc'; cases hcc'), i3.then hc (fun i hi e => by have := (hb _ e).1; omega)⟩
theorem nTell_stays (lo N : Nat) (pre : List Nat) (x B : Nat) : Stays B (nTell lo N pre x) := fun X Y T hb hc ⟨i1, i2, i3⟩ => ⟨i1, i2, Nat.le_trans i3 hc.size⟩
def fewTo (xs : List Cls) (K : Int) (s : ByteArray) (k : Nat) : List Int := ((List.range k).filter fun i => decide (missN xs s i ≤ K)).map fun (i : Nat) => (i : Int)
theorem fewTo_yes {xs : List Cls} {K : Int} {s : ByteArray} {n : Nat} (h : missN xs s n ≤ K) : fewTo xs K s (n + 1) = fewTo xs K s n ++ [(n : Int)] := by
 unfold fewTo; rw [List.range_succ, List.filter_append, List.map_append, List.filter_cons_of_pos (by simpa using h)]; simp
theorem fewTo_no {xs : List Cls} {K : Int} {s : ByteArray} {n : Nat} (h : ¬ missN xs s n ≤ K) : fewTo xs K s (n + 1) = fewTo xs K s n := by
 unfold fewTo; rw [List.range_succ, List.filter_append, List.map_append, List.filter_cons_of_neg (by simpa using h)]; simp
theorem fewTo_len (xs : List Cls) (K : Int) (s : ByteArray) (n : Nat) : (fewTo xs K s n).length ≤ n := by
 unfold fewTo; rw [List.length_map]; exact Nat.le_trans (List.length_filter_le _ _) (by simp)
theorem na_step {bO : Nat} {w4 W W2 W3 : World} {g : Nat → List Int} {pre : List Nat} {x : Nat} {v : Int} {A A' : Option Addr} {c c' : Nat} (hbo : bO < w4.heap.size) (hlo : w4.heap.size + 2 ≤ W.heap.size) (hx : x = pre.length) (hg : g (x + 1) = g x ++ [v])
  (hB : Blk W bO #[.slice A (g pre.length).length c] 37) (hO : IRow W (w4.heap.size + 2) A (g pre.length).length c (g pre.length)) (hC : Chg (NaS bO w4.heap.size) w4 W)
  (hc2 : Chg Nothing W W2) (hc3 : Chg (Of A) W2 W3) (hown : W3.ownsRow (w4.heap.size + 2) 3 1 (.slice A' ((g pre.length).length + 1) c') ((g pre.length).length + 1) ((g pre.length).map (Value.int .i64) ++ [.int .i64 v])) :
  ∀ V, V = W3.setCell ⟨bO, 0, none⟩ (.slice A' ((g pre.length).length + 1) c') → Chg (NaS bO w4.heap.size) W V ∧ NaI bO w4 g (pre ++ [x]) V := by
 rintro V rfl
 have hof := fun j hj => (own_of hO j hj).1
 have hof' := fun j hj => (own_of hown j hj).1
 have hs : Chg (One bO) W3 (W3.setCell ⟨bO, 0, none⟩ (.slice A' ((g pre.length).length + 1) c')) := (Chg.refl _ _).setOne 0 _
 have hall : Chg (NaS bO w4.heap.size) W (W3.setCell ⟨bO, 0, none⟩ (.slice A' ((g pre.length).length + 1) c')) :=
  ((hc2.mono (fun _ _ h => h.elim)).trans (hc3.mono (fun j _ h => .inr (hof j h)))).trans (hs.mono (fun j _ h => .inl h))
 have hlen : (g (pre ++ [x]).length).length = (g pre.length).length + 1 := by rw [List.length_append, List.length_singleton, ← hx, hg, List.length_append]; rfl
 refine ⟨hall, A', c', ?_, ?_, hC.trans hall⟩
 ·rw [hlen]
  exact ((hB.chg hc2 id).chg hc3 (fun h => by have := hof _ h; omega)).set 0 _
 ·unfold IRow
  rw [hlen, List.length_append, List.length_singleton, ← hx, hg, List.map_append, hx]
  exact own_chg hown hs (fun j hj h => by have := hof' j hj; have h2 : j = bO := h; omega)
theorem naiveMissesM (F : Nat → Prop) (A : Option Addr) (n c : Nat) (xs : List Cls) (K : Int) (s : ByteArray) (i : Nat) (most : Int) (w : World) (H : ClsRow F w A n c xs) (hl : xs.length = n) (hs : s.size ≤ 1000000000) (hin : i + n ≤ s.size) (hm0 : 0 ≤ most) :
  Calls Tryz.prog 140 #[.agg #[.slice A n c, .int .i64 K], .string s, .int .i64 i, .int .i64 most] w fun e w' => e = .returned (.int .i64 (missUp xs s i most n)) ∧ Chg Nothing w w' :=
 (naiveMisses_any F A n c xs K s i most w H hl hs hin hm0).mono (fun e w' ⟨⟨he, _⟩, hc⟩ => ⟨he, hc⟩)
theorem naiveFind_any (F : Nat → Prop) (A : Option Addr) (n c : Nat) (xs : List Cls) (K : Int) (s : ByteArray) (w : World) (H : ClsRow F w A n c xs) (hF : ∀ k, F k → k < w.heap.size) (hl : xs.length = n) (hs : s.size ≤ 100000000) (hK0 : 0 ≤ K) :
  Calls Tryz.prog 111 #[.agg #[.slice A n c, .int .i64 K], .string s] w fun e w' => GivesI w.heap.size w' e (fewTo xs K s (sumsN xs K s.size)) ∧ Chg Nothing w w' := by
 have hX := ((Blk.new w #[.slice A n c, .int .i64 K] 34).alloc (.cells #[.string s] 9)).alloc (.cells #[.slice none 0 0] 37)
 have hT := (Blk.new (w.alloc (.cells #[.slice A n c, .int .i64 K] 34)) #[.string s] 9).alloc (.cells #[.slice none 0 0] 37)
 have hO := Blk.new ((w.alloc (.cells #[.slice A n c, .int .i64 K] 34)).alloc (.cells #[.string s] 9)) #[.slice none 0 0] 37
 have hw0 := hid ((((Chg.refl Nothing w).alloc (.cells #[.slice A n c, .int .i64 K] 34)).alloc (.cells #[.string s] 9)).alloc (.cells #[.slice none 0 0] 37))
 simp only [World.size_alloc] at hT hO
 have hHH := hid (fun (w' : World) (hc : Chg Nothing w w') => H.chg hc (fun _ _ _ h => h))
 have hHH2 := hid (fun (S : Nat → Prop) (w' : World) (hc : Chg S w w') (hS : ∀ k, k < w.heap.size → ¬ S k) => H.chg hc (fun k hk _ => hS k hk))
 have hlh := hid hl
 have hle := H.le
 have hmx := H.max
 have x0 := hX.cell 0 (v := .slice A n c) rfl
 have x1 := hX.cell 1 (v := .int .i64 K) rfl
 have t0 := hT.cell 0 (v := .string s) rfl
 have hXh := hid hX
 have hTh := hid hT
 have hOh := hid hO
 obtain ⟨N, hN⟩ : ∃ N, N = sumsN xs K s.size := ⟨_, rfl⟩
 have hN9 : N ≤ 100000001 := by rw [hN]; unfold sumsN; split <;> omega
 have hNn := hid (fun i (h : i < N) => (show i + n ≤ s.size from by rw [hN] at h; unfold sumsN at h; rw [hl] at h; split at h <;> omega))
 rw [← hN]
 replace hN := hid hN
 clear H hX hT hO hl
 refine callsIn_wide.1 (callsIn_of_wp_marks (n := 9) Tryz.func111 rfl trivial ?_ rfl)
 simp only [Tryz.ntmps111, List.size_toArray, List.length_cons, List.length_nil, Nat.reduceAdd, Nat.reduceSub, Array.replicate_succ, Array.replicate_zero, List.push_toArray, List.append_toArray, List.nil_append, List.cons_append]
 refine wpIn_wide.2 ?_
 go_wp2_with fail
 refine (naivePlaces_any A n c K s _).mono ?_
 rintro e w4 ⟨rfl, hNB, hz4, hc4⟩
 simp only [World.size_alloc] at hNB hz4 ⊢
 have hX4 := hid (hXh.out.chg hc4 id)
 have hT4 := hid (hTh.out.chg hc4 id)
 have hO4 := hid (hOh.out.chg hc4 id)
 have hC4 := hid (hw0.out.trans hc4)
 have hNBh := hid hNB
 have hz4h := hid hz4
 obtain ⟨b0, hb0⟩ : ∃ b0, b0 = w.heap.size := ⟨_, rfl⟩
 rw [← hb0] at hX4 hT4 hO4 hNBh hz4h
 rw [← hb0]
 have hb0h := hid hb0
 clear hNB hz4 hc4 x0 x1 t0 hXh hTh hOh hb0
 go_wp2_with fail
 try rw [← hb0h.out]
 have hseq := hid (fun (w5 : World) (hc : Chg Nothing w4 w5) (hz : w4.heap.size + 2 ≤ w5.heap.size) => naive_gives 8 (by decide) F A n c xs K s (b0 + 1 + 1 + 1) (b0 + 1 + 1 + 1 + 2) (b0 + 1 + 1 + 1 + 1) (w4.heap.size + 2) w5 hz (fun k => NaS (b0 + 1 + 1) w4.heap.size k ∨ k = w4.heap.size ∨ k = w4.heap.size + 1) (hHH.out _ (hC4.out.trans hc)) hlh.out hs (hNBh.out.chg hc id id id)
  (fun k _ hk e => by have := hF k hk; have := hz4h.out; have := hb0h.out; unfold NaS at e; omega)
  (fun e => by have := hz4h.out; unfold NaS at e; omega) (fun e => by have := hz4h.out; unfold NaS at e; omega) (fun e => by have := hz4h.out; unfold NaS at e; omega))
 rw [← hN.out] at hseq
 have hbo := hid (show b0 + 1 + 1 < w4.heap.size from by have := hz4h.out; omega)
 refine (wpIn_wide (n := 9)).1 ?_
 refine' wpIn_range_gives2 (F := Fence.wide) rfl (by omega) (gf := 160) (lb := #[.pointer (some ⟨b0 + 1 + 1 + 1, 0, none⟩), .pointer (some ⟨b0 + 1 + 1 + 1 + 2, 0, none⟩), .pointer (some ⟨b0 + 1 + 1 + 1 + 1, 0, none⟩)]) rfl trivial (enters_of Tryz.func160 (by kernel_rfl) rfl) (encs := nEnc) (fun _ => rfl) (S := NaS (b0 + 1 + 1) w4.heap.size) (G := nTell (w4.heap.size + 2) N) (fun k e => by have := hz4h.out; unfold NaS at e; omega) hseq.out
  (NaI (b0 + 1 + 1) w4 (fewTo xs K s)) (fun _ _ _ => False) (NaI_stays (b0 + 1 + 1) w4 _ hbo.out) (fun _ _ _ _ _ _ _ h => h) (fun _ _ => nTell_stays _ _ _ _ _) ⟨none, 0, hO4.out, World.ownsRow_nil _ _ _ _, Chg.refl _ _⟩ _ ?assign ?body ?done ?stop
 case assign =>
  intro l x W K' hK'
  unfold nEnc
  gi_wp2
  exact hK'
 case stop =>
  rintro D c pre W _ _ h _
  exact h.elim
 case done =>
  rintro D ys W hD hE ⟨A9, c9, hB, hO, hch⟩ hDef
  rw [hE] at hB hO
  have z0 := hB.cell 0 (v := .slice A9 (fewTo xs K s N).length c9) rfl
  have hOf := hid (own_low hO (show w.heap.size ≤ w4.heap.size + 2 from by have := hC4.out.size; omega))
  have hOb := hid (fun k hk => (own_of hO k hk).1)
  have hOc := hid (own_cells hO)
  have hDefh := hid hDef
  have hch0 := hid hch
  have hDlt := hid (show D < W.heap.size from (Array.getElem?_eq_some_iff.1 hDef).1)
  clear hO hch hDef hB hE
  go_wp2_with fail
  have hD9 : W.heap[D]? = some (.deferred (some [])) := hDefh.out
  have hpo : Chg (One D) W (W.putObj D (.deferred none)) := Chg.of_grownBy (grownBy_putObj' W D (.deferred none)) (fun k h _ => by cases h; rfl)
  refine ⟨by simp, .inl ⟨_, _, rfl, run_takeDeferred hD9, ?_⟩⟩
  have hsz9 : w.heap.size ≤ w4.heap.size := hC4.out.size
  refine ⟨_, results_tmp rfl _ _ _, ⟨⟨A9, c9, by simp, ?_⟩, ((hC4.out.then hch0.out (fun j hj e => by have := hbo.out; have := hb0h.out; unfold NaS at e; omega))).then hpo (fun j hj e => absurd (show j = D from e) (by omega))⟩⟩
  exact own_chg hOf.out hpo (fun k hk e => by
   have h2 : k = D := e
   subst h2
   obtain ⟨o, ho, hcc⟩ := hOc.out _ hk
   rw [hD9] at ho
   obtain rfl := Option.some.inj ho
   cases hcc)
 case body =>
  rintro l pre x W ⟨A9, c9, hB, hO, hch⟩ ⟨rfl, hxN, hlo⟩
  have hX9 := hX4.out.chg hch (fun e => by have := hz4h.out; unfold NaS at e; omega)
  have hT9 := hT4.out.chg hch (fun e => by have := hz4h.out; unfold NaS at e; omega)
  have x0 := hX9.cell 0 (v := .slice A n c) rfl
  have x1 := hX9.cell 1 (v := .int .i64 K) rfl
  have t0 := hT9.cell 0 (v := .string s) rfl
  have hxn := hNn.out pre.length hxN
  have hMs := hid (fun (nn : Calm W) => (naiveMissesM F A n c xs K s pre.length K nn.val (hHH2.out _ _ (((hC4.out.mono (T := NaS (b0 + 1 + 1) w4.heap.size) (fun _ _ h => h.elim)).trans hch).trans (nn.chg.mono (fun _ _ h => h.elim))) (fun k hk e => by have := hz4h.out; have := hb0h.out; unfold NaS at e; omega)) hlh.out (by omega) hxn hK0))
  have hAns := hid (show MissAns xs s pre.length n K (missUp xs s pre.length K n) from by
   obtain ⟨_, _, _, ⟨⟨_, h⟩, _⟩, _⟩ := naiveMisses_any F A n c xs K s pre.length K W (hHH2.out _ _ ((hC4.out.mono (T := NaS (b0 + 1 + 1) w4.heap.size) (fun _ _ h => h.elim)).trans hch) (fun k hk e => by have := hz4h.out; have := hb0h.out; unfold NaS at e; omega)) hlh.out (by omega) hxn hK0 []
   exact h)
  have hfy := hid (fun h => fewTo_yes (xs := xs) (K := K) (s := s) (n := pre.length) h)
  have hfn := hid (fun h => fewTo_no (xs := xs) (K := K) (s := s) (n := pre.length) h)
  generalize missUp xs s pre.length K n = v at hMs hAns
  have hBh := hid hB
  have hOh2 := hid hO
  have hchh := hid hch
  have X0 := Calm.cell hX9.lt x0
  have X1 := Calm.cell hX9.lt x1
  have T0 := Calm.cell hT9.lt t0
  clear hB hO hch hX9 hT9
  gi_wp2
  refine wpIn_region_calm_round (C := fun w' => ∃ nn : Calm W, w' = nn.val) (by kernel_rfl) (by kernel_rfl) (by kernel_rfl) ⟨⟨_, (Chg.refl Nothing W).drew⟩, rfl⟩ ?_
  repeat (go_big_quiet_step ((go_at_call 140; exact calm_of (hMs.out _))))
  refine wpQuiet_nil ?_
  rintro w' ⟨nq, rfl⟩
  have hBq := hBh.out.chg nq.chg id
  have hOq := hid (own_chg hOh2.out nq.chg (fun _ _ h => h))
  have hCq := hid nq.chg
  generalize nq.val = wn at hBq hOq hCq ⊢
  have z0 := hBq.cell 0 (v := .slice A9 (fewTo xs K s pre.length).length c9) rfl
  have z1 := hBq.free 0
  have zl := hBq.lt
  by_cases hvK : v ≤ K
  ·have hfy2 := hid (hfy.out (hAns.out.1.1 hvK))
   have hlen := hid (fewTo_len xs K s pre.length)
   have hBqh := hid hBq
   clear hBq
   gi_wp2_with (gi_at_builtin; refine append_genIn rfl _ _ 37 rfl (w4.heap.size + 2) 3 (.int .i64 0) 1 8 Tryz.underlying37 infoInt rfl (by decide) A9 c9 (fewTo xs K s pre.length).length _ rfl (own_chg hOq.out ((Chg.refl Nothing wn).alloc _) (fun _ _ h => h)) (some ⟨wn.heap.size, 0, none⟩) 1 1 [.int .i64 (pre.length : Nat)] rfl rfl (fun e => by cases e) (Nat.le_refl _) (fun ad e => by injection e with e; subst e; exact cell_one_new wn _ _) (by intro u hu; simp at hu; subst hu; rfl) ?_ ?_ ?_ ?_)
   ·have := hlen.out; unfold maxLen; omega
   ·have := hlen.out; omega
   ·have := hCq.out.size; rw [World.size_alloc]; omega
   intro A' c' w6 hown6 hc6 hA6
   have hBq6 := ((hBqh.out.alloc (.cells #[.int .i64 (pre.length : Nat)] 3)).chg hc6 (fun h => by have := (own_of hOq.out _ h).1; have := hbo.out; omega))
   have z2 := hBq6.cell 0 (v := .slice A9 (fewTo xs K s pre.length).length c9) rfl
   have z3 := hBq6.free 0
   have zl2 := hBq6.lt
   have hD := hid (na_step hbo.out hlo rfl hfy2.out (by exact hBh.out) hOh2.out hchh.out (hCq.out.alloc (.cells #[.int .i64 (pre.length : Nat)] 3)) hc6 hown6 _ rfl)
   clear hBq6 hown6 hc6 hA6 z0 z1 zl
   gi_wp2
   exact hD.out
  ·have hfn2 := hid (hfn.out (by have := hAns.out.1; omega))
   have hd : decide (v ≤ K) = false := decide_eq_false hvK
   clear hBq z0 z1 zl
   gi_wp2
   refine ⟨hCq.out.mono (fun _ _ h => h.elim), ?_⟩
   have hA := hOq.out
   have hBq := hBh.out.chg hCq.out id
   refine ⟨A9, c9, ?_, ?_, hchh.out.trans (hCq.out.mono (fun _ _ h => h.elim))⟩
   ·rw [List.length_append, List.length_singleton, hfn2.out]; exact hBq
   ·rw [List.length_append, List.length_singleton, hfn2.out]; exact hA
end Go.Proofs.YtoelilejohfglaaGreat
namespace Go.Proofs.YtoelilejohfglaaGreat
open Go.RowKit
set_option linter.unusedVariables false
set_option linter.unusedSimpArgs false
section
variable {P : Program} {ops : Array Oper} {Q : Exit → Act → World → Prop} {md : Region.Mode} {n : Nat} {S : World → Prop}
end
end Go.Proofs.YtoelilejohfglaaGreat
namespace Go.Proofs.YtoelilejohfglaaGreat
open Go.RowKit
set_option linter.unusedVariables false
set_option linter.unusedSimpArgs false
open Go.RowKit Go.Shelf
attribute [local go_sem] Oper.semAt_some
def misTo (xs : List Cls) (s : ByteArray) (k : Nat) : List Int := (List.range k).map fun i => missN xs s i
theorem misTo_len (xs : List Cls) (s : ByteArray) (k : Nat) : (misTo xs s k).length = k := by unfold misTo; simp
end Go.Proofs.YtoelilejohfglaaGreat
