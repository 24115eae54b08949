/- Joined texts: SetA SetB SetC SetD SetE SetF SetG SetPlain SetPlainB. -/
import Derived.Test.YtoelilejohfglaaGreatRows
import Derived.Test.YtoelilejohfglaaGreatBunA
import Derived.Deep.QuietTactic
import Derived.BigQuiet
import Derived.BigRegion
import Derived.Shelf.Abstract
import Derived.Deep.LoopGhost
set_option maxHeartbeats 16000000
set_option maxRecDepth 100000
namespace Go.Proofs.YtoelilejohfglaaGreat
open Go.RowKit
set_option linter.unusedVariables false
set_option linter.unusedSimpArgs false
theorem infoI : (Tryz.prog.info? 3).map (fun i => (i.zero, i.size, i.bytes)) = some (some (.int .i64 0), 1, 8) := by kernel_rfl
def rgtS : Int → List Int → Bool
 | _, [] => true
 | last, x :: xs => if x ≤ last then false else rgtS x xs
def GivesInts (base : Nat) (w' : World) (e : Ending) (xs : List Int) : Prop := ∃ A c, e = .returned (.slice A xs.length c) ∧ w'.ownsRow base 3 1 (.slice A xs.length c) xs.length (xs.map (Value.int .i64))
theorem setRight_any (F : Nat → Prop) (A : Option Addr) (n c : Nat) (xs : List Int) (w : World) (h : IntsAt F w A n c xs) :
  Calls Tryz.prog 41 #[.slice A n c] w fun e w' => e = .returned (.bool (rgtS (-1) xs)) ∧ w = w' := by
 have hln := hid h.2.2.2.1
 have hn := h.2.1
 have hc := h.2.2.1
 have H := hid h
 clear h
 go_enter Tryz.func41, Tryz.ntmps41
 go_wp2_with fail
 go_loop [3, 8] (fun last i => ∃ (k : Nat) (x : Int), k ≤ n ∧ i = .int .i64 k ∧ last = .int .i64 x ∧ Hid (rgtS (-1) xs = rgtS x (xs.drop k))) (fun _ i => n - (intOf i).toNat)
 case atStart => exact ⟨0, -1, Nat.zero_le _, rfl, rfl, hid rfl⟩
 case round =>
  obtain ⟨k, x, hk, rfl, rfl, hr⟩ := hrel
  by_cases hlt : k < n
  ·obtain ⟨g, o, rfl, _, _, hcell⟩ := H.out.at_ hlt
   have hd := hid (drop_cons (d := (0 : Int)) (xs := xs) (k := k) (by rw [hln.out]; exact hlt))
   generalize hy : xs.getD k 0 = y at *
   clear hy
   by_cases hle : y ≤ x
   ·go_wp2
    go_ret
    exact ⟨by rw [hr.out, hd.out]; simp [rgtS, hle], rfl⟩
   ·go_wp2
    go_round
    case rel => exact ⟨k + 1, y, by omega, by go_num, rfl, hid (by rw [hr.out, hd.out]; simp [rgtS, hle])⟩
    case measure => simp [intOf]; omega
  ·go_wp2
   go_ret
   have : xs.drop k = [] := List.drop_eq_nil_of_le (by rw [hln.out]; omega)
   exact ⟨by rw [hr.out, this]; rfl, rfl⟩
structure AlongSt (F : Nat → Prop) (ba bl : Nat) (B : Option Addr) (n c : Nat) (xs : List Int) (y : Int) (w : World) : Prop where
 ne : ba ≠ bl
 nf : ¬ F ba
 row : IntsAt F w B n c xs
 bx : Blk w bl #[.slice B n c] 37
 at_ : ∃ k, k ≤ n ∧ Blk w ba #[.int .i64 (k : Nat)] 3 ∧ ∀ j, j < k → xs.getD j 0 < y
theorem AlongSt.chg {F S : Nat → Prop} {ba bl : Nat} {B : Option Addr} {n c : Nat} {xs : List Int} {y : Int} {w w' : World} (h : AlongSt F ba bl B n c xs y w) (hc : Chg S w w') (h1 : ¬ S ba) (h2 : ¬ S bl) (h3 : ∀ k, k < w.heap.size → F k → ¬ S k) : AlongSt F ba bl B n c xs y w' := by
 obtain ⟨k, hk, hB, hj⟩ := h.at_
 exact ⟨h.ne, h.nf, h.row.chg hc h3, h.bx.chg hc h2, k, hk, hB.chg hc h1, hj⟩
theorem AlongSt.mono {F : Nat → Prop} {ba bl : Nat} {B : Option Addr} {n c : Nat} {xs : List Int} {y z : Int} {w : World} (h : AlongSt F ba bl B n c xs y w) (hyz : y ≤ z) : AlongSt F ba bl B n c xs z w := by
 obtain ⟨k, hk, hB, hj⟩ := h.at_
 exact ⟨h.ne, h.nf, h.row, h.bx, k, hk, hB, fun j hj' => by have := hj j hj'; omega⟩
theorem along_any (F : Nat → Prop) (B : Option Addr) (n c : Nat) (xs : List Int) (w : World) (h : IntsAt F w B n c xs) (hF : ∀ k, F k → k < w.heap.size) :
  Calls Tryz.prog 126 #[.slice B n c] w fun e w' => ∃ ba bl, e = .returned (.func (.func 154) #[] #[.pointer (some ⟨ba, 0, none⟩), .pointer (some ⟨bl, 0, none⟩)]) ∧ w.heap.size ≤ ba ∧ w.heap.size ≤ bl ∧ ba < w'.heap.size ∧ bl < w'.heap.size ∧ (∀ y, AlongSt F ba bl B n c xs y w') ∧ Chg Nothing w w' := by
 have H := hid h
 clear h
 go_enter Tryz.func126, Tryz.ntmps126
 go_wp2_with fail
 go_ret
 have hC := ((Chg.refl Nothing w).alloc (.cells #[.slice B n c] 37)).alloc (.cells #[.int .i64 0] 3)
 refine ⟨w.heap.size + 1, w.heap.size, by simp, by omega, by omega, by simp [World.size_alloc], by simp [World.size_alloc]; omega, fun y => ⟨by omega, fun h => by have := hF _ h; omega, H.out.chg hC (fun _ _ _ h => h), (Blk.new w _ _).alloc _, 0, Nat.zero_le _, ?_, fun j hj => by omega⟩, hC⟩
 have := Blk.new (w.alloc (.cells #[.slice B n c] 37)) #[.int .i64 0] 3
 simpa [World.size_alloc] using this
theorem mem_at {xs : List Int} (hr : rgtS (-1) xs = true) {k : Nat} {x : Int} (hlo : ∀ j, j < k → xs.getD j 0 < x) (hhi : k < xs.length → x ≤ xs.getD k 0) :
  decide (x ∈ xs) = (decide (k < xs.length) && decide (xs.getD k 0 = x)) := by
 have hmono : ∀ (l : List Int) (a : Int), rgtS a l = true → (∀ z ∈ l, a < z) ∧ l.Pairwise (· < ·) := by
  intro l
  induction l with
  | nil => intro a _; simp
  | cons z zs ih =>
   intro a h
   simp only [rgtS] at h
   split at h
   ·cases h
   ·rename_i hz
    obtain ⟨h1, h2⟩ := ih z h
    refine ⟨fun u hu => ?_, List.pairwise_cons.2 ⟨h1, h2⟩⟩
    rcases List.mem_cons.1 hu with rfl | hu
    ·omega
    ·have := h1 u hu; omega
 have hp := (hmono xs (-1) hr).2
 by_cases hk : k < xs.length
 ·rw [Bool.eq_iff_iff]
  simp only [decide_eq_true_eq, Bool.and_eq_true]
  constructor
  ·intro hx
   refine ⟨hk, ?_⟩
   obtain ⟨j, hj, rfl⟩ := List.getElem_of_mem hx
   rcases Nat.lt_trichotomy j k with h | h | h
   ·have := hlo j h
    simp [hj] at this
   ·subst h; simp [hj]
   ·have h1 := hhi hk
    have h2 := List.pairwise_iff_getElem.1 hp k j hk hj h
    simp [hk] at h1
    omega
  ·rintro ⟨_, rfl⟩
   simp [hk]
 ·rw [Bool.eq_iff_iff]
  simp only [decide_eq_true_eq, Bool.and_eq_true]
  constructor
  ·intro hx
   obtain ⟨j, hj, rfl⟩ := List.getElem_of_mem hx
   have := hlo j (by omega)
   simp [hj] at this
  ·rintro ⟨h, _⟩; contradiction
structure AlongAt (F : Nat → Prop) (ba bl : Nat) (B : Option Addr) (n c : Nat) (xs : List Int) (k : Nat) (w : World) : Prop where
 nf : ¬ F ba
 row : IntsAt F w B n c xs
 bx : Blk w bl #[.slice B n c] 37
 at_ : Blk w ba #[.int .i64 (k : Nat)] 3
theorem along1_any (F : Nat → Prop) (ba bl : Nat) (B : Option Addr) (n c : Nat) (xs : List Int) (y x : Int) (w : World) (h : AlongSt F ba bl B n c xs y w) (hr : rgtS (-1) xs = true) (hyx : y ≤ x) :
  Calls Tryz.prog 154 #[.int .i64 x, .pointer (some ⟨ba, 0, none⟩), .pointer (some ⟨bl, 0, none⟩)] w fun e w' => e = .returned (.bool (decide (x ∈ xs))) ∧ AlongSt F ba bl B n c xs x w' ∧ Chg (One ba) w w' := by
 obtain ⟨hne, hnf, hrow, hbx, k0, hk0, hB0, hj0⟩ := h
 have hn := hrow.2.1
 have hc := hrow.2.2.1
 have hln := hid hrow.2.2.2.1
 have HR := hid hr; clear hr
 have hA : AlongAt F ba bl B n c xs k0 w := ⟨hnf, hrow, hbx, hB0⟩
 clear hrow hbx hB0
 have HJ0 := hid hj0; clear hj0
 go_enter Tryz.func154, Tryz.ntmps154
 go_wp2_with fail
 go_loopg [] n (fun gg wr => ∃ k, k ≤ n ∧ n - k ≤ gg ∧ AlongAt F ba bl B n c xs k wr ∧ Hid (∀ j, j < k → xs.getD j 0 < x) ∧ Chg (One ba) w wr)
 case atStart => exact ⟨k0, hk0, by omega, hA, hid (fun j hj => by have := HJ0.out j hj; omega), Chg.refl _ _⟩
 case round =>
  obtain ⟨k, hk, hgg, hA', hj, hcr⟩ := hrel
  have c1 := hA'.at_.cell 0 (v := .int .i64 (k : Nat)) rfl
  have f1 := hA'.at_.free 0
  have c2 := hA'.bx.cell 0 (v := .slice B n c) rfl
  by_cases hlt : k < n
  ·obtain ⟨g, o, rfl, hFg, _, hcell⟩ := hA'.row.at_ hlt
   have hgba : g ≠ ba := fun e => hA'.nf (e ▸ hFg)
   have HA' := hid hA'; clear hA'
   generalize hv : xs.getD k 0 = v at *
   have HV := hid hv; clear hv
   by_cases hlx : v < x
   ·go_wp2
    go_roundg (n - (k + 1))
    rotate_left
    ·omega
    ·have hS := (Chg.refl (One ba) wr).setOne 0 (.int .i64 ((k : Int) + 1))
     refine ⟨k + 1, by omega, by omega, ⟨hnf, HA'.out.row.chg hS (fun k _ h e => hnf (by unfold One at e; rw [← e]; exact h)), HA'.out.bx.chg hS (fun e => hne e.symm), ?_⟩, hid (fun j hj' => ?_), hcr.trans hS⟩
     ·exact HA'.out.at_.set 0 (.int .i64 ((k : Int) + 1))
     ·rcases Nat.lt_succ_iff_lt_or_eq.1 hj' with h | rfl
      ·exact hj.out j h
      ·rw [HV.out]; exact hlx
   ·have hmem := mem_at HR.out (k := k) (x := x) hj.out (fun _ => by rw [HV.out]; omega)
    rw [hln.out, HV.out] at hmem
    have hfin : AlongSt F ba bl (some ⟨g, o, none⟩) n c xs x wr := ⟨hne, hnf, HA'.out.row, HA'.out.bx, k, hk, HA'.out.at_, hj.out⟩
    have HM := hid hmem; clear hmem
    by_cases hvx : v = x
    ·subst hvx
     go_wp2
     go_ret
     exact ⟨by rw [HM.out]; simp [hlt], hfin, hcr⟩
    ·have hvx' : x < v := by omega
     go_wp2
     go_ret
     exact ⟨by rw [HM.out]; simp [hlt, hvx], hfin, hcr⟩
  ·have hmem := mem_at HR.out (k := k) (x := x) hj.out (fun h => by rw [hln.out] at h; omega)
   rw [hln.out] at hmem
   have HM := hid hmem; clear hmem
   have hfin : AlongSt F ba bl B n c xs x wr := ⟨hne, hnf, hA'.row, hA'.bx, k, hk, hA'.at_, hj.out⟩
   clear hA'
   go_wp2
   go_ret
   exact ⟨by rw [HM.out]; simp [hlt], hfin, hcr⟩
def keptL (p : Int → Bool) (xs : List Int) : List Int := if rgtS (-1) xs then xs.filter p else []
structure Rule (g : Nat) (lb : Array Value) (p : Int → Bool) (St : Int → World → Prop) (B : Nat) (M : Nat → Prop) : Prop where
 enters : ∀ args w, (callFunc g args).run Tryz.prog w = .ok (.enter g args) w
 ask : ∀ y x W, y ≤ x → St y W → Calls Tryz.prog g (#[.int .i64 x] ++ lb) W fun e W' => e = .returned (.bool (p x)) ∧ St x W' ∧ Chg M W W'
 stays : ∀ y W W', St y W → Chg (fun k => B ≤ k) W W' → St y W'
 below : ∀ k, M k → k < B
theorem rightB_lt {last : Int} {xs : List Int} (h : rgtS last xs = true) : ∀ z ∈ xs, last < z := by
 induction xs generalizing last with
 | nil => intro z hz; simp at hz
 | cons x xs ih =>
  simp only [rgtS] at h
  split at h
  ·cases h
  ·intro z hz
   rcases List.mem_cons.1 hz with rfl | hz
   ·omega
   ·have := ih h z hz; omega
theorem rightB_mono {a b : Int} {xs : List Int} (hab : a ≤ b) (h : rgtS b xs = true) : rgtS a xs = true := by
 cases xs with
 | nil => rfl
 | cons x xs =>
  simp only [rgtS] at h ⊢
  split at h
  ·cases h
  ·rw [if_neg (by omega)]; exact h
theorem take_succ' {α : Type} {d : α} {xs : List α} {k : Nat} (h : k < xs.length) : xs.take (k + 1) = xs.take k ++ [xs.getD k d] := by
 rw [List.take_succ_eq_append_getElem h]; simp [h]
theorem kept_any (F : Nat → Prop) (A : Option Addr) (n c : Nat) (xs : List Int) (g : Nat) (lb : Array Value) (p : Int → Bool) (St : Int → World → Prop) (M : Nat → Prop) (y : Int) (w : World)
  (h : IntsAt F w A n c xs) (hb : n * 8 ≤ 140737488351232) (hr : Rule g lb p St w.heap.size M) (hy : y ≤ -1) (hst : St y w) (hFM : ∀ k, F k → ¬ M k) (hFw : ∀ k, F k → k < w.heap.size) :
  Calls Tryz.prog 125 #[.slice A n c, .func (.func g) #[] lb] w fun e w' => GivesInts w.heap.size w' e (keptL p xs) ∧ Chg M w w' ∧ ∃ z, St z w' := by
 have H := hid h
 have hln := hid h.2.2.2.1
 have hn := h.2.1
 have hc := h.2.2.1
 clear h
 have eg := hr.enters
 have HR := hid hr; clear hr
 unfold keptL
 by_cases hright : rgtS (-1) xs = true
 ·rw [hright]
  simp only [if_true]
  have HRT := hid hright
  go_enter Tryz.func125, Tryz.ntmps125
  go_wp2_with (go_at_call 41; refine (setRight_any F A n c xs _ H.out).mono ?_; rintro e w' ⟨rfl, rfl⟩)
  go_loopw [5, 13] (fun v i wr => ∃ (k : Nat) (X : Option Addr) (cx : Nat) (m : Nat) (z : Int), k ≤ n ∧ m ≤ k ∧ i = .int .i64 k ∧ v = .slice X m cx ∧ Hid (((xs.take k).filter p).length = m) ∧ wr.ownsRow w.heap.size 3 1 (.slice X m cx) m (((xs.take k).filter p).map (Value.int .i64)) ∧ St z wr ∧ Hid (rgtS z (xs.drop k) = true) ∧ Chg M w wr) (fun _ i _ => n - (intOf i).toNat)
  case atStart => exact ⟨0, none, 0, 0, y, Nat.zero_le _, Nat.le_refl _, rfl, rfl, hid rfl, World.ownsRow_nil _ _ _ _, hst, hid (rightB_mono hy hright), Chg.refl _ _⟩
  case round =>
   obtain ⟨k, X, cx, m, z, hk, hmk, rfl, rfl, hm, hown, hst', hrd, hcr⟩ := hrel
   by_cases hlt : k < n
   ·have hrow := H.out.chg hcr (fun k _ h => hFM k h)
    obtain ⟨g', o, rfl, _, _, hcell⟩ := hrow.at_ hlt
    have hd := hid (drop_cons (d := (0 : Int)) (xs := xs) (k := k) (by rw [hln.out]; exact hlt))
    have htk := hid (take_succ' (d := (0 : Int)) (xs := xs) (k := k) (by rw [hln.out]; exact hlt))
    generalize hv : xs.getD k 0 = v at *
    clear hv hrow
    have hzv : z < v ∧ rgtS v (xs.drop (k + 1)) = true := by
     have := hrd.out
     rw [hd.out] at this
     simp only [rgtS] at this
     split at this
     ·cases this
     ·exact ⟨by omega, this⟩
    obtain ⟨hzv, hrv⟩ := hzv
    have HRV := hid hrv; clear hrv
    have hgs := hcr.size
    have hfilt : (xs.take (k + 1)).filter p = (xs.take k).filter p ++ (if p v = true then [v] else []) := by
     rw [htk.out, List.filter_append]; congr 1; simp [List.filter_cons]
    have HFI := hid hfilt; clear hfilt
    go_wp2_with fail
    go_at_fn g
    refine (HR.out.ask z v wr (by omega) hst').mono ?_
    rintro e w3 ⟨rfl, hst3, hc3⟩
    have hown3 := own_chg hown hc3 (fun k hk h => by have := own_of hown k hk; have := HR.out.below k h; omega)
    have hs3 := hc3.size
    have hcr3 := hcr.trans hc3
    clear hst' hcr hown hc3
    cases hp : p v with
    | true =>
     go_wp2_with (at_builtin; refine append_one rfl _ _ 37 rfl w.heap.size 3 (.int .i64 0) 8 Tryz.underlying37 infoI rfl X cx m _ rfl hown3 (.int .i64 v) rfl rfl ?h4 ?h5 ?h6 ?_)
     case h4 => omega
     case h5 => omega
     case h6 => omega
     intro X' cx' w4 hown4 hc4 hX
     have hst4 := HR.out.stays v w3 w4 hst3 (hc4.mono (fun k _ h => (own_of hown3 k h).1))
     have hcr4 := hcr3.then hc4 (fun k hk h => by have := own_of hown3 k h; omega)
     clear hown3 hc4 hst3 hcr3
     go_wp2
     go_roundw
     case rel => exact ⟨k + 1, X', cx', m + 1, v, by omega, by omega, by go_num, rfl, hid (by rw [HFI.out, if_pos hp, List.length_append, hm.out]; rfl), by rw [HFI.out, if_pos hp, List.map_append]; exact hown4, hst4, HRV, hcr4⟩
     case measure => simp [intOf]; omega
    | false =>
     go_wp2
     go_roundw
     case rel => exact ⟨k + 1, X, cx, m, v, by omega, by omega, by go_num, rfl, hid (by rw [HFI.out, if_neg (by simp [hp]), List.append_nil, hm.out]), by rw [HFI.out, if_neg (by simp [hp]), List.append_nil]; exact hown3, hst3, HRV, hcr3⟩
     case measure => simp [intOf]; omega
   ·have htk : xs.take k = xs := List.take_of_length_le (by rw [hln.out]; omega)
    rw [htk] at hm hown
    clear htk
    go_wp2
    go_ret
    refine ⟨⟨X, cx, ?_, ?_⟩, hcr, z, hst'⟩
    ·rw [hm.out]; rfl
    ·rw [hm.out]; exact hown
 ·have hrf : rgtS (-1) xs = false := by simpa using hright
  clear hright
  rw [hrf]
  go_enter Tryz.func125, Tryz.ntmps125
  go_wp2_with (go_at_call 41; refine (setRight_any F A n c xs _ H.out).mono ?_; rintro e w' ⟨rfl, rfl⟩)
  go_ret
  exact ⟨⟨none, 0, rfl, World.ownsRow_nil _ _ _ _⟩, Chg.refl _ _, y, hst⟩
theorem own_base_mono {w : World} {b b' : Nat} {e : TypeId} {sz n : Nat} {v : Value} {xs : List Value} (h : w.ownsRow b e sz v n xs) (hb : b' ≤ b) : w.ownsRow b' e sz v n xs := by
 refine ⟨h.1, ?_⟩
 rcases h.2 with hn | ⟨g, cap, cur, e1, hg, rest⟩
 ·exact .inl hn
 ·exact .inr ⟨g, cap, cur, e1, by omega, rest⟩
theorem GivesInts.mono {b b' : Nat} {w : World} {e : Ending} {xs : List Int} (h : GivesInts b w e xs) (hb : b' ≤ b) : GivesInts b' w e xs := by
 obtain ⟨A, c, h1, h2⟩ := h; exact ⟨A, c, h1, own_base_mono h2 hb⟩
theorem GivesInts.nil (b : Nat) (w : World) : GivesInts b w (.returned (.slice none 0 0)) [] := ⟨none, 0, rfl, World.ownsRow_nil _ _ _ _⟩
def andL (a b : List Int) : List Int := if rgtS (-1) b then keptL (fun x => decide (x ∈ b)) a else []
def belowL (l : List Int) (n : Int) : List Int := keptL (fun x => decide (x < n)) l
def shiftL (l : List Int) (n : Int) : List Int := if n < 0 then [] else (keptL (fun x => decide (n ≤ x)) l).map (fun x => x - n)
def clip (n : Int) : Nat := (max 0 (min n 100000)).toNat
def notL (l : List Int) (n : Int) : List Int := if rgtS (-1) l then ((List.range (clip n)).map (fun (k : Nat) => (k : Int))).filter (fun x => !decide (x ∈ l)) else []
theorem along_enters (args : Array Value) (w : World) : (callFunc 154 args).run Tryz.prog w = .ok (.enter 154 args) w := by kernel_rfl
theorem shift1_enters (args : Array Value) (w : World) : (callFunc 127 args).run Tryz.prog w = .ok (.enter 127 args) w := by kernel_rfl
theorem along_rule (F : Nat → Prop) (ba bl : Nat) (B : Option Addr) (n c : Nat) (xs : List Int) (N : Nat) (hr : rgtS (-1) xs = true) (hba : ba < N) (hbl : bl < N) (hF : ∀ k, F k → k < N) :
  Rule 154 #[.pointer (some ⟨ba, 0, none⟩), .pointer (some ⟨bl, 0, none⟩)] (fun x => decide (x ∈ xs)) (fun y w => AlongSt F ba bl B n c xs y w) N (One ba) :=
 ⟨along_enters, fun y x W hyx h => along1_any F ba bl B n c xs y x W h hr hyx,
  fun y W W' h hc => h.chg hc (by omega) (by omega) (fun k _ hk => by have := hF k hk; omega), fun k hk => by unfold One at hk; omega⟩
theorem setAnd_any (F G : Nat → Prop) (A B : Option Addr) (n c m d : Nat) (xs ys : List Int) (w : World) (h : IntsAt F w A n c xs) (h' : IntsAt G w B m d ys) (hF : ∀ k, F k → k < w.heap.size) (hG : ∀ k, G k → k < w.heap.size) (hb : n * 8 ≤ 140737488351232) :
  Calls Tryz.prog 77 #[.slice A n c, .slice B m d] w fun e w' => GivesInts w.heap.size w' e (andL xs ys) ∧ Chg Nothing w w' := by
 have H := hid h; clear h
 have H' := hid h'; clear h'
 have hFF := hid hF; clear hF
 have hGG := hid hG; clear hG
 by_cases hr : rgtS (-1) ys = true
 ·have HR := hid hr
  go_enter Tryz.func77, Tryz.ntmps77
  go_wp2_with (go_at_call 41; refine (setRight_any G B m d ys _ H'.out).mono ?_; rintro e w' ⟨rfl, rfl⟩)
  refine (along_any G B m d ys w H'.out hGG.out).mono ?_
  rintro e w1 ⟨ba, bl, rfl, h1, h2, h3, h4, hst, hc1⟩
  go_wp2_with fail
  have hrule := along_rule G ba bl B m d ys w1.heap.size HR.out h3 h4 (fun k hk => by have := hGG.out k hk; have := hc1.size; omega)
  refine (kept_any F A n c xs _ _ _ _ (One ba) (-1) w1 (H.out.chg hc1 (fun _ _ _ h => h)) hb hrule (by omega) (hst _) (fun k hk e => by have := hFF.out k hk; unfold One at e; omega) (fun k hk => by have := hFF.out k hk; have := hc1.size; omega)).mono ?_
  rintro e w2 ⟨hg, hc2, _⟩
  obtain ⟨X, cx, rfl, hown⟩ := hg.mono hc1.size
  have hc02 := hc1.then hc2 (fun k hk e => by unfold One at e; omega)
  clear hst hrule
  go_wp2_with fail
  go_ret
  exact ⟨⟨X, cx, by unfold andL; rw [if_pos HR.out]; rfl, by unfold andL; rw [if_pos HR.out]; exact hown⟩, hc02⟩
 ·have hrf : rgtS (-1) ys = false := by simpa using hr
  clear hr
  have HR := hid hrf
  go_enter Tryz.func77, Tryz.ntmps77
  go_wp2_with (go_at_call 41; refine (setRight_any G B m d ys _ H'.out).mono ?_; rintro e w' ⟨rfl, rfl⟩)
  go_ret
  exact ⟨by unfold andL; rw [if_neg (by rw [HR.out]; decide)]; exact GivesInts.nil _ _, Chg.refl _ _⟩
theorem shift1_any (b : Nat) (n x : Int) (w : World) (h : Blk w b #[.int .i64 n] 3) :
  Calls Tryz.prog 127 #[.int .i64 x, .pointer (some ⟨b, 0, none⟩)] w fun e w' => e = .returned (.bool (decide (n ≤ x))) ∧ w = w' := by
 have h0 := h.cell 0 (v := .int .i64 n) rfl
 clear h
 go_enter Tryz.func127, Tryz.ntmps127
 go_wp2_with fail
 go_ret
 exact ⟨by simp, rfl⟩
theorem plain_rule (g : Nat) (p : Int → Bool) (b : Nat) (n : Int) (N : Nat) (hb : b < N) (hg : ∀ args w, (callFunc g args).run Tryz.prog w = .ok (.enter g args) w)
  (hc : ∀ x w, Blk w b #[.int .i64 n] 3 → Calls Tryz.prog g #[.int .i64 x, .pointer (some ⟨b, 0, none⟩)] w fun e w' => e = .returned (.bool (p x)) ∧ w = w') :
  Rule g #[.pointer (some ⟨b, 0, none⟩)] p (fun _ w => Blk w b #[.int .i64 n] 3) N Nothing :=
 ⟨hg, fun y x W _ h => (hc x W h).mono fun e W' ⟨h1, h2⟩ => ⟨h1, h2 ▸ h, h2 ▸ Chg.refl _ _⟩, fun y W W' h hcg => h.chg hcg (by omega), fun k hk => hk.elim⟩
theorem keptL_nonneg {p : Int → Bool} {xs : List Int} : ∀ z ∈ keptL p xs, 0 ≤ z ∧ z ∈ xs ∧ p z = true := by
 intro z hz
 unfold keptL at hz
 split at hz
 ·rename_i hr
  rw [List.mem_filter] at hz
  have := rightB_lt hr z hz.1
  exact ⟨by omega, hz.1, hz.2⟩
 ·simp at hz
theorem keptL_len {p : Int → Bool} {xs : List Int} : (keptL p xs).length ≤ xs.length := by
 unfold keptL; split
 ·exact List.length_filter_le _ _
 ·simp
def mixed (ys : List Int) (x : Int) (k : Nat) : List Int := (ys.take k).map (fun z => z - x) ++ ys.drop k
theorem mixed_get (ys : List Int) (x : Int) (k : Nat) (hk : k < ys.length) : (mixed ys x k).getD k 0 = ys.getD k 0 := by
 have h1 : ((ys.take k).map (fun z => z - x)).length = k := by simp; omega
 unfold mixed
 rw [List.getD_eq_getElem?_getD, List.getElem?_append_right (by omega), h1]
 simp
theorem mixed_step (ys : List Int) (x : Int) (k : Nat) (hk : k < ys.length) : (mixed ys x k).set k (ys.getD k 0 - x) = mixed ys x (k + 1) := by
 have h1 : ((ys.take k).map (fun z => z - x)).length = k := by simp; omega
 unfold mixed
 rw [List.set_append_right _ _ (by omega), h1, Nat.sub_self, drop_cons (d := (0 : Int)) hk, take_succ' (d := (0 : Int)) hk, List.set_cons_zero, List.map_append, List.append_assoc]
 rfl
theorem mixed_end (ys : List Int) (x : Int) : mixed ys x ys.length = ys.map (fun z => z - x) := by simp [mixed]
theorem map_getD {α β : Type} (f : α → β) (xs : List α) (k : Nat) (d : α) : (xs.map f).getD k (f d) = f (xs.getD k d) := by simp [List.getD, List.getElem?_map]
theorem setShift_any (F : Nat → Prop) (A : Option Addr) (n c : Nat) (xs : List Int) (x : Int) (w : World) (h : IntsAt F w A n c xs) (hF : ∀ k, F k → k < w.heap.size) (hb : n * 8 ≤ 140737488351232) (hx : x ≤ 9223372036854775807) (hxs : ∀ z ∈ xs, z ≤ 9223372036854775807) :
  Calls Tryz.prog 80 #[.slice A n c, .int .i64 x] w fun e w' => GivesInts w.heap.size w' e (shiftL xs x) ∧ Chg Nothing w w' := by
 have H := hid h; clear h
 have hFF := hid hF; clear hF
 have hln := H.out.2.2.2.1
 by_cases hneg : x < 0
 ·clear hln
  go_enter Tryz.func80, Tryz.ntmps80
  go_wp2_with fail
  go_ret
  exact ⟨by unfold shiftL; rw [if_pos hneg]; exact GivesInts.nil _ _, (Chg.refl _ _).alloc _⟩
 ·have hx0 : 0 ≤ x := by omega
  have hys := hid (keptL_nonneg (p := fun z => decide (x ≤ z)) (xs := xs))
  have hyl : (keptL (fun z => decide (x ≤ z)) xs).length ≤ n := by have := keptL_len (p := fun z => decide (x ≤ z)) (xs := xs); omega
  have hsh : shiftL xs x = (keptL (fun z => decide (x ≤ z)) xs).map (fun z => z - x) := by unfold shiftL; rw [if_neg hneg]
  rw [hsh]
  clear hsh hln
  obtain ⟨ys, hye⟩ : ∃ ys, ys = keptL (fun z => decide (x ≤ z)) xs := ⟨_, rfl⟩
  rw [← hye] at hys hyl ⊢
  have HYE := hid hye; clear hye
  have hc1 := (Chg.refl Nothing w).alloc (.cells #[.int .i64 x] 3)
  have hrule := hid (plain_rule 127 (fun z => decide (x ≤ z)) w.heap.size x (w.alloc (.cells #[.int .i64 x] 3)).heap.size (by rw [World.size_alloc]; omega) shift1_enters (fun z W h => shift1_any w.heap.size x z W h))
  have hx9 := hid hxs; clear hxs
  have hB1 := hid (Blk.new w #[.int .i64 x] 3)
  go_enter Tryz.func80, Tryz.ntmps80
  go_wp2_with fail
  refine (kept_any F A n c xs _ _ _ _ Nothing (-1) _ (H.out.chg hc1 (fun _ _ _ h => h)) hb hrule.out (by omega) hB1.out (fun k _ h => h) (fun k hk => by have := hFF.out k hk; rw [World.size_alloc]; omega)).mono ?_
  rintro e w2 ⟨hg, hc2, z, hbx⟩
  rw [← HYE.out] at hg
  obtain ⟨X, cx, rfl, hown⟩ := hg.mono (b' := w.heap.size + 1) (by rw [World.size_alloc]; omega)
  have hc02 := hc1.trans hc2
  have hwx := hbx.lt
  clear hc1 hc2
  go_wp2_with fail
  go_loopw [14] (fun i wr => ∃ k : Nat, k ≤ ys.length ∧ i = .int .i64 k ∧ wr.ownsRow (w.heap.size + 1) 3 1 (.slice X ys.length cx) ys.length ((mixed ys x k).map (Value.int .i64)) ∧ Blk wr w.heap.size #[.int .i64 x] 3 ∧ Chg Nothing w wr) (fun i _ => ys.length - (intOf i).toNat)
  case atStart => exact ⟨0, Nat.zero_le _, rfl, by simpa [mixed] using hown, hbx, hc02⟩
  case round =>
   obtain ⟨k, hk, rfl, hown', hbx', hcr⟩ := hrel
   by_cases hlt : k < ys.length
   ·obtain ⟨g, rfl, hgb, hgs, hcell, hfree, hset⟩ := own_at hown' hlt (.int .i64 0)
    have hv : ((mixed ys x k).map (Value.int .i64)).getD k (.int .i64 0) = .int .i64 (ys.getD k 0) := by rw [map_getD (Value.int .i64), mixed_get ys x k hlt]
    rw [hv] at hcell
    have hmem := hys.out (ys.getD k 0) (by rw [show ys.getD k 0 = ys[k] from by simp [hlt]]; exact List.getElem_mem hlt)
    have hst := hid (mixed_step ys x k hlt)
    have h9 := hx9.out _ hmem.2.1
    have h0 := hmem.1
    have hxv : x ≤ ys.getD k 0 := by have := hmem.2.2; simpa using this
    have c0 := hbx'.cell 0 (v := .int .i64 x) rfl
    generalize hyk : ys.getD k 0 = yk at *
    clear hv hmem hyk
    have hlen := hown'.1
    have hSET := hid hset; clear hset hown'
    have HBX := hid hbx'; clear hbx'
    have hklen : k < ys.length := hlt
    go_wp2_with fail
    go_region
    go_wp2
    go_roundw
    case rel =>
     have hst' := (Chg.refl (One g) wr).drew.setOne k (.int .i64 (yk - x))
     refine ⟨k + 1, by omega, by go_num, ?_, HBX.out.chg hst' (by unfold One; omega), hcr.then hst' (fun j hj e => by unfold One at e; omega)⟩
     rw [← hst.out, List.map_set]
     exact hSET.out _ _ ⟨Nothing, Chg.refl _ _, fun h => h⟩
    case measure => simp [intOf]; omega
   ·obtain rfl : k = ys.length := by omega
    go_wp2
    go_ret
    rw [mixed_end] at hown'
    refine ⟨⟨X, cx, by simp, ?_⟩, hcr⟩
    have := own_base_mono hown' (b' := w.heap.size) (by omega)
    simpa using this
def below_ (k : Nat) : List Int := (List.range k).map (fun (j : Nat) => (j : Int))
theorem below_succ (k : Nat) : below_ (k + 1) = below_ k ++ [(k : Int)] := by simp [below_, List.range_succ]
def NotInv (w w1 : World) (F : Nat → Prop) (ba bl : Nat) (A : Option Addr) (n c : Nat) (xs : List Int) (N : Nat) (v i : Value) (wr : World) : Prop :=
 ∃ (k : Nat) (X : Option Addr) (cx m : Nat), k ≤ N ∧ m ≤ k ∧ i = .int .i64 k ∧ v = .slice X m cx ∧ Hid (((below_ k).filter (fun z => !decide (z ∈ xs))).length = m) ∧ wr.ownsRow w1.heap.size 3 1 (.slice X m cx) m (((below_ k).filter (fun z => !decide (z ∈ xs))).map (Value.int .i64)) ∧ AlongSt F ba bl A n c xs ((k : Int) - 1) wr ∧ Chg Nothing w wr ∧ w1.heap.size ≤ wr.heap.size
set_option maxRecDepth 1000000 in
theorem setNot_any (F : Nat → Prop) (A : Option Addr) (n c : Nat) (xs : List Int) (x : Int) (w : World) (h : IntsAt F w A n c xs) (hF : ∀ k, F k → k < w.heap.size) :
  Calls Tryz.prog 79 #[.slice A n c, .int .i64 x] w fun e w' => GivesInts w.heap.size w' e (notL xs x) ∧ Chg Nothing w w' := by
 have H := hid h; clear h
 have hFF := hid hF; clear hF
 have hnl : notL xs x = if rgtS (-1) xs then (below_ (clip x)).filter (fun z => !decide (z ∈ xs)) else [] := rfl
 rw [hnl]
 clear hnl
 by_cases hr : rgtS (-1) xs = true
 ·rw [if_pos hr]
  have HR := hid hr
  obtain ⟨N, hN⟩ : ∃ N, N = clip x := ⟨_, rfl⟩
  rw [← hN]
  have hN' : (N : Int) = max 0 (min x 100000) := by rw [hN]; unfold clip; omega
  have hN5 : N ≤ 100000 := by omega
  have HN := hid hN'; clear hN' hN
  have hcase : (x ≤ 0 ∧ N = 0) ∨ (0 < x ∧ x ≤ 100000 ∧ x ≤ N ∧ N ≤ x) ∨ (100000 < x ∧ 100000 ≤ (N : Int) ∧ (N : Int) ≤ 100000) := by have := HN.out; omega
  have hright := setRight_any F A n c xs w H.out
  rw [hr] at hright
  have hright := hid hright
  clear hr
  rcases hcase with ⟨hx, rfl⟩ | ⟨hx, hx2, hx3, hx4⟩ | ⟨hx, hx3, hx4⟩
  ·go_enter Tryz.func79, Tryz.ntmps79
   go_wp2
   go_step3
   go_wp2_with fail
   refine hright.out.mono ?_
   rintro e w' ⟨rfl, rfl⟩
   go_wp2_with fail
   refine (along_any F A n c xs w H.out hFF.out).mono ?_
   rintro e w1 ⟨ba, bl, rfl, h1, h2, h3, h4, hst, hc1⟩
   clear hst
   go_wp2
   go_step3
   go_wp2
   go_loop [5, 16] (fun v i => v = .slice none 0 0 ∧ i = .int .i64 0) (fun _ _ => 0)
   case atStart => exact ⟨rfl, rfl⟩
   case round =>
    obtain ⟨rfl, rfl⟩ := hrel
    go_wp2
    try rw [Exit.noGoto_ret]
    go_ret
    rw [show (below_ 0).filter (fun z => !decide (z ∈ xs)) = [] from rfl]
    exact ⟨GivesInts.nil _ _, hc1⟩
  all_goals
   go_enter Tryz.func79, Tryz.ntmps79
   go_wp2
   go_step3
   go_wp2_with fail
   refine hright.out.mono ?_
   rintro e w' ⟨rfl, rfl⟩
   go_wp2_with fail
   refine (along_any F A n c xs w H.out hFF.out).mono ?_
   rintro e w1 ⟨ba, bl, rfl, h1, h2, h3, h4, hst, hc1⟩
   have hw1 := hc1.size
   have hrule := hid (along_rule F ba bl A n c xs w1.heap.size HR.out h3 h4 (fun k hk => by have := hFF.out k hk; omega))
   have hst0 := hst (-1)
   have eg := along_enters
   clear hst
   go_wp2
   go_step3
   go_wp2
   go_loopw [5, 16] (fun v i wr => NotInv w w1 F ba bl A n c xs N v i wr) (fun _ i _ => N - (intOf i).toNat)
   case atStart => exact ⟨0, none, 0, 0, Nat.zero_le _, Nat.le_refl _, rfl, rfl, hid rfl, World.ownsRow_nil _ _ _ _, hst0, hc1, Nat.le_refl _⟩
   case round =>
    obtain ⟨k, X, cx, m, hk, hmk, rfl, rfl, hm, hown, hst', hcr, hwr⟩ := hrel
    have hbs := hid (below_succ k)
    rcases Nat.lt_or_ge k N with hlt | hge
    rotate_left
    ·have hkN := Nat.le_antisymm hk hge
     go_wp2
     try rw [Exit.noGoto_ret]
     go_ret
     subst hkN
     refine ⟨⟨X, cx, ?_, ?_⟩, hcr⟩
     ·rw [hm.out]; rfl
     ·rw [hm.out]; exact own_base_mono hown (by omega)
    ·have hfilt : (below_ (k + 1)).filter (fun z => !decide (z ∈ xs)) = (below_ k).filter (fun z => !decide (z ∈ xs)) ++ (if decide ((k : Int) ∈ xs) = true then [] else [(k : Int)]) := by
      rw [hbs.out, List.filter_append]; congr 1; by_cases hm : (k : Int) ∈ xs <;> simp [hm]
     have HFI := hid hfilt; clear hfilt
     go_wp2_with fail
     refine (along1_any F ba bl A n c xs ((k : Int) - 1) k wr hst' HR.out (by omega)).mono ?_
     rintro e w3 ⟨rfl, hst3, hc3⟩
     have hown3 := own_chg hown hc3 (fun k hk h => by have := own_of hown k hk; unfold One at h; omega)
     have hs3 := hc3.size
     have hcr3 := hcr.then hc3 (fun j hj e => by unfold One at e; omega)
     have hst4 := hid (show AlongSt F ba bl A n c xs (((k + 1 : Nat) : Int) - 1) w3 from by rw [show (((k + 1 : Nat) : Int) - 1) = (k : Int) from by omega]; exact hst3)
     clear hst' hcr hown hc3
     cases hp : decide ((k : Int) ∈ xs) with
     | true =>
      go_wp2
      go_roundw
      case rel => exact ⟨k + 1, X, cx, m, by omega, by omega, by go_num, rfl, hid (by rw [HFI.out, if_pos hp, List.append_nil, hm.out]), by rw [HFI.out, if_pos hp, List.append_nil]; exact hown3, hst4.out, hcr3, by omega⟩
      case measure => simp [intOf]; omega
     | false =>
      have hm5 : m ≤ 100000 := by omega
      go_wp2_with (at_builtin; refine append_one rfl _ _ 37 rfl w1.heap.size 3 (.int .i64 0) 8 Tryz.underlying37 infoI rfl X cx m _ rfl hown3 (.int .i64 k) rfl rfl ?_ ?_ ?_ ?_)
      ·omega
      ·omega
      ·omega
      intro X' cx' w4 hown4 hc4 hX
      clear hX
      have ox := own_of hown3
      have hs4 := hc4.size
      have hst5 := hst4.out.chg hc4 (fun h => by have := ox _ h; omega) (fun h => by have := ox _ h; omega) (fun j _ hj h => by have := ox _ h; have := hFF.out j hj; omega)
      have hcr4 := hcr3.then hc4 (fun k hk h => by have := ox k h; omega)
      clear hown3 hc4 hst3 hcr3 ox
      go_wp2
      go_roundw
      case rel => exact ⟨k + 1, X', cx', m + 1, by omega, by omega, by go_num, rfl, hid (by rw [HFI.out, if_neg (by simp [hp]), List.length_append, hm.out]; rfl), by rw [HFI.out, if_neg (by simp [hp]), List.map_append]; exact hown4, hst5, hcr4, by omega⟩
      case measure => simp [intOf]; omega
 ·rw [if_neg hr]
  have hrf : rgtS (-1) xs = false := by simpa using hr
  have hright := setRight_any F A n c xs w H.out
  rw [hrf] at hright
  have hright := hid hright
  clear hr hrf
  go_enter Tryz.func79, Tryz.ntmps79
  go_wp2
  go_step3
  go_wp2_with fail
  refine hright.out.mono ?_
  rintro e w' ⟨rfl, rfl⟩
  go_wp2
  try rw [Exit.noGoto_ret]
  go_ret
  exact ⟨GivesInts.nil _ _, Chg.refl _ _⟩
def mergeL : List Int → List Int → List Int
 | [], ys => ys
 | x :: xs, [] => x :: xs
 | x :: xs, y :: ys => if x < y then x :: mergeL xs (y :: ys) else if y < x then y :: mergeL (x :: xs) ys else x :: mergeL xs ys
termination_by xs ys => xs.length + ys.length
theorem mergeL_nil (xs : List Int) : mergeL xs [] = xs := by cases xs <;> simp [mergeL]
theorem mergeL_nil' (ys : List Int) : mergeL [] ys = ys := by simp [mergeL]
theorem mergeL_lt {x y : Int} (xs ys : List Int) (h : x < y) : mergeL (x :: xs) (y :: ys) = x :: mergeL xs (y :: ys) := by rw [mergeL, if_pos h]
theorem mergeL_gt {x y : Int} (xs ys : List Int) (h : y < x) : mergeL (x :: xs) (y :: ys) = y :: mergeL (x :: xs) ys := by rw [mergeL, if_neg (by omega), if_pos h]
theorem mergeL_eq (x : Int) (xs ys : List Int) : mergeL (x :: xs) (x :: ys) = x :: mergeL xs ys := by rw [mergeL, if_neg (by omega), if_neg (by omega)]
theorem mergeL_len (xs ys : List Int) : (mergeL xs ys).length ≤ xs.length + ys.length := by
 fun_induction mergeL xs ys <;> simp_all <;> omega
def orL (a b : List Int) : List Int := if rgtS (-1) a && rgtS (-1) b then mergeL a b else []
theorem elemI : Tryz.prog.underlying 37 = some (.slice (Tryz.prog.elem 37)) := by kernel_rfl
theorem sizeI (w : World) : (sizeOf (Tryz.prog.elem 37)).run Tryz.prog w = .ok 1 w := by kernel_rfl
def OrInv (w : World) (F G : Nat → Prop) (xs ys : List Int) (N M : Nat) (a b v : Value) (gg : Nat) (wr : World) : Prop :=
 ∃ (A B X : Option Addr) (n c m d p cx : Nat) (xs' ys' out : List Int), n ≤ N ∧ m ≤ M ∧ n + m + p ≤ N + M ∧ n + m ≤ gg ∧ a = .slice A n c ∧ b = .slice B m d ∧ v = .slice X p cx ∧
  IntsAt F wr A n c xs' ∧ IntsAt G wr B m d ys' ∧ wr.ownsRow w.heap.size 3 1 (.slice X p cx) p (out.map (Value.int .i64)) ∧ Hid (mergeL xs ys = out ++ mergeL xs' ys') ∧ Chg Nothing w wr
theorem setOr_any (F G : Nat → Prop) (A B : Option Addr) (n c m d : Nat) (xs ys : List Int) (w : World) (h : IntsAt F w A n c xs) (h' : IntsAt G w B m d ys) (hF : ∀ k, F k → k < w.heap.size) (hG : ∀ k, G k → k < w.heap.size) (hb : n * 8 ≤ 70368744177664) (hb' : m * 8 ≤ 70368744177664) :
  Calls Tryz.prog 78 #[.slice A n c, .slice B m d] w fun e w' => GivesInts w.heap.size w' e (orL xs ys) ∧ Chg Nothing w w' := by
 have H := hid h; clear h
 have H' := hid h'; clear h'
 have hFF := hid hF; clear hF
 have hGG := hid hG; clear hG
 unfold orL
 by_cases hr : rgtS (-1) xs = true
 ·by_cases hr' : rgtS (-1) ys = true
  ·rw [hr, hr']
   simp only [Bool.and_self, if_true]
   have h1 := setRight_any F A n c xs w H.out
   have h2 := setRight_any G B m d ys w H'.out
   rw [hr] at h1
   rw [hr'] at h2
   have H1 := hid h1; clear h1
   have H2 := hid h2; clear h2
   clear hr hr'
   go_enter Tryz.func78, Tryz.ntmps78
   go_wp2_with fail
   refine H1.out.mono ?_
   rintro e w' ⟨rfl, rfl⟩
   go_wp2_with fail
   refine H2.out.mono ?_
   rintro e w' ⟨rfl, rfl⟩
   go_wp2_with fail
   go_loopg [0, 1, 5] (n + m) (fun gg a b v wr => OrInv w F G xs ys n m a b v gg wr)
   case atStart => exact ⟨A, B, none, n, c, m, d, 0, 0, xs, ys, [], Nat.le_refl _, Nat.le_refl _, by omega, Nat.le_refl _, rfl, rfl, rfl, H.out, H'.out, World.ownsRow_nil _ _ _ _, hid rfl, Chg.refl _ _⟩
   case round =>
    obtain ⟨A', B', X, n', c', m', d', p, cx, xs', ys', out, hn, hm, hnm, hgg, rfl, rfl, rfl, hI, hJ, hown, hmg, hcr⟩ := hrel
    have hc1 := hI.2.1
    have hc2 := hI.2.2.1
    have hd1 := hJ.2.1
    have hd2 := hJ.2.2.1
    have hl1 := hI.2.2.2.1
    have hl2 := hJ.2.2.2.1
    have hwr := hcr.size
    by_cases hn0 : 0 < n'
    ·by_cases hm0 : 0 < m'
     ·obtain ⟨g, o, rfl, hFg, _, hcell⟩ := hI.at_ hn0
      obtain ⟨g2, o2, rfl, hGg, _, hcell2⟩ := hJ.at_ hm0
      cases xs' with
      | nil => simp at hl1; omega
      | cons x xs' =>
      cases ys' with
      | nil => simp at hl2; omega
      | cons y ys' =>
      simp only [Nat.add_zero, List.getD_cons_zero] at hcell hcell2
      obtain ⟨A1, hA1, hsl1⟩ := run_tail elemI sizeI (some ⟨g, o, none⟩) n' c' (by omega) ⟨g, o, rfl⟩
      obtain ⟨B1, hB1, hsl2⟩ := run_tail elemI sizeI (some ⟨g2, o2, none⟩) m' d' (by omega) ⟨g2, o2, rfl⟩
      have hI' := hid (hI.tail hA1)
      have hJ' := hid (hJ.tail hB1)
      have HI := hid hI; clear hI
      have HJ := hid hJ; clear hJ
      clear hA1 hB1 hl1 hl2
      have hcase : x < y ∨ y < x ∨ x = y := by omega
      have hstep : ∀ (least : Int) (nn mm : Nat) (AA BB : Option Addr) (cc dd : Nat) (xs2 ys2 : List Int) (W : World) (X' : Option Addr) (cx' : Nat),
        nn ≤ n' → mm ≤ m' → nn + mm + 1 ≤ n' + m' → IntsAt F wr AA nn cc xs2 → IntsAt G wr BB mm dd ys2 → mergeL (x :: xs') (y :: ys') = least :: mergeL xs2 ys2 →
        W.ownsRow w.heap.size 3 1 (.slice X' (p + 1) cx') (p + 1) (out.map (Value.int .i64) ++ [.int .i64 least]) → Chg (Of X) wr W →
        OrInv w F G xs ys n m (.slice AA nn cc) (.slice BB mm dd) (.slice X' (p + 1) cx') (n' + m' - 1) W := by
       intro least nn mm AA BB cc dd xs2 ys2 W X' cx' e1 e2 e3 hIa hJb hmm hoW hcW
       have ox := own_of hown
       refine ⟨AA, BB, X', nn, cc, mm, dd, p + 1, cx', xs2, ys2, out ++ [least], by omega, by omega, by omega, by omega, rfl, rfl, rfl, hIa.chg hcW (fun k _ hk h => by have := ox k h; have := hFF.out k hk; omega), hJb.chg hcW (fun k _ hk h => by have := ox k h; have := hGG.out k hk; omega), by rw [List.map_append]; exact hoW, hid ?_, hcr.then hcW (fun k hk h => by have := ox k h; omega)⟩
       rw [hmg.out, hmm, List.append_assoc]; rfl
      have HSTEP := hid hstep; clear hstep
      have hgo : n' + m' - 1 < gk := by omega
      have gF := hFF.out g hFg
      have gG := hGG.out g2 hGg
      have hpn : (p + 1) * 8 ≤ 140737488355328 := by omega
      clear hmg
      rcases hcase with hxy | hxy | rfl
      all_goals
       go_wp2
       go_quiet (fail)
      ·have hownq := own_chg hown ((Chg.refl Nothing wr).drewN nq) (fun _ _ h => h)
       go_wp2_with (at_builtin; refine append_one rfl _ _ 37 rfl w.heap.size 3 (.int .i64 0) 8 Tryz.underlying37 infoI rfl X cx p _ rfl hownq (.int .i64 x) rfl rfl ?_ ?_ ?_ ?_)
       ·exact hpn
       ·omega
       ·exact hwr
       intro X' cx' w4 hown4 hc4 hX
       have hc04 : Chg (Of X) wr w4 := ((Chg.refl (Of X) wr).drewN nq).trans hc4
       have ox := own_of hown
       have c1 : w4.cell? ⟨g, o, none⟩ = some (.int .i64 x) := (World.cell?_of_block (w := wr) (hc04.block g (by omega) (fun h => by have := ox g h; omega))).trans hcell
       have c2 : w4.cell? ⟨g2, o2, none⟩ = some (.int .i64 y) := (World.cell?_of_block (w := wr) (hc04.block g2 (by omega) (fun h => by have := ox g2 h; omega))).trans hcell2
       clear ox hownq hc4 hX hcell hcell2 hown
       have HO4 := hid hown4; clear hown4
       go_wp2
       go_roundg (n' + m' - 1)
       ·exact HSTEP.out x (n' - 1) m' A1 (some ⟨g2, o2, none⟩) (c' - 1) d' xs' (y :: ys') w4 X' cx' (by omega) (by omega) (by omega) hI'.out HJ.out (mergeL_lt _ _ hxy) HO4.out hc04
       ·exact hgo
      ·have hownq := own_chg hown ((Chg.refl Nothing wr).drewN nq) (fun _ _ h => h)
       go_wp2_with (at_builtin; refine append_one rfl _ _ 37 rfl w.heap.size 3 (.int .i64 0) 8 Tryz.underlying37 infoI rfl X cx p _ rfl hownq (.int .i64 y) rfl rfl ?_ ?_ ?_ ?_)
       ·exact hpn
       ·omega
       ·exact hwr
       intro X' cx' w4 hown4 hc4 hX
       have hc04 : Chg (Of X) wr w4 := ((Chg.refl (Of X) wr).drewN nq).trans hc4
       have ox := own_of hown
       have c1 : w4.cell? ⟨g, o, none⟩ = some (.int .i64 x) := (World.cell?_of_block (w := wr) (hc04.block g (by omega) (fun h => by have := ox g h; omega))).trans hcell
       have c2 : w4.cell? ⟨g2, o2, none⟩ = some (.int .i64 y) := (World.cell?_of_block (w := wr) (hc04.block g2 (by omega) (fun h => by have := ox g2 h; omega))).trans hcell2
       clear ox hownq hc4 hX hcell hcell2 hown
       have HO4 := hid hown4; clear hown4
       go_wp2
       go_roundg (n' + m' - 1)
       ·exact HSTEP.out y n' (m' - 1) (some ⟨g, o, none⟩) B1 c' (d' - 1) (x :: xs') ys' w4 X' cx' (by omega) (by omega) (by omega) HI.out hJ'.out (mergeL_gt _ _ hxy) HO4.out hc04
       ·exact hgo
      ·have hownq := own_chg hown ((Chg.refl Nothing wr).drewN nq) (fun _ _ h => h)
       go_wp2_with (at_builtin; refine append_one rfl _ _ 37 rfl w.heap.size 3 (.int .i64 0) 8 Tryz.underlying37 infoI rfl X cx p _ rfl hownq (.int .i64 x) rfl rfl ?_ ?_ ?_ ?_)
       ·exact hpn
       ·omega
       ·exact hwr
       intro X' cx' w4 hown4 hc4 hX
       have hc04 : Chg (Of X) wr w4 := ((Chg.refl (Of X) wr).drewN nq).trans hc4
       have ox := own_of hown
       have c1 : w4.cell? ⟨g, o, none⟩ = some (.int .i64 x) := (World.cell?_of_block (w := wr) (hc04.block g (by omega) (fun h => by have := ox g h; omega))).trans hcell
       have c2 : w4.cell? ⟨g2, o2, none⟩ = some (.int .i64 x) := (World.cell?_of_block (w := wr) (hc04.block g2 (by omega) (fun h => by have := ox g2 h; omega))).trans hcell2
       clear ox hownq hc4 hX hcell hcell2 hown
       have HO4 := hid hown4; clear hown4
       go_wp2
       go_roundg (n' + m' - 1)
       ·exact HSTEP.out x (n' - 1) (m' - 1) A1 B1 (c' - 1) (d' - 1) xs' ys' w4 X' cx' (by omega) (by omega) (by omega) hI'.out hJ'.out (mergeL_eq _ _ _) HO4.out hc04
       ·exact hgo
     ·have hmm : mergeL xs' ys' = xs' ++ ys' := by
       have : xs' = [] ∨ ys' = [] := by
        first
         | exact .inr (List.eq_nil_of_length_eq_zero (by omega))
         | exact .inl (List.eq_nil_of_length_eq_zero (by omega))
       rcases this with rfl | rfl
       ·rw [mergeL_nil']; rfl
       ·rw [mergeL_nil, List.append_nil]
      have HMG := hid (hmg.out.trans (by rw [hmm])); clear hmm hmg
      have hout : p + n' + m' ≤ n + m := by omega
      have HI := hid hI; clear hI
      have HJ := hid hJ; clear hJ
      have HC1 := hid hl1
      have HC2 := hid hl2; clear hl1 hl2
      have hpn : p + n' ≤ n + m := by omega
      go_wp2_with (at_builtin; refine append_gen (o := ⟨some 50, _, _, _, _, _⟩) rfl _ _ 37 rfl w.heap.size 3 (.int .i64 0) 1 8 Tryz.underlying37 infoI rfl (by decide) X cx p (out.map (Value.int .i64)) rfl hown A' n' c' (xs'.map (Value.int .i64)) rfl ?_ ?_ ?_ ?_ (nums_one _ _) ?_ ?_ ?_ ?_)
      ·rw [List.length_map, HC1.out]; omega
      ·exact HI.out.1
      ·exact HI.out.2.1
      ·exact HI.out.cells'
      ·unfold maxLen; omega
      ·omega
      ·exact hwr
      intro X1 cx1 w4 hown4 hc4
      intros
      have ox := own_of hown
      have hcr4 := hcr.then hc4 (fun k hk h => by have := ox k h; omega)
      have HJ4 := hid (HJ.out.chg hc4 (fun k _ hk h => by have := ox k h; have := hGG.out k hk; omega))
      have hw4 := hcr4.size
      clear hc4 ox hown
      go_wp2_with (at_builtin; refine append_gen (o := ⟨some 52, _, _, _, _, _⟩) rfl _ _ 37 rfl w.heap.size 3 (.int .i64 0) 1 8 Tryz.underlying37 infoI rfl (by decide) X1 cx1 (p + n') _ rfl hown4 B' m' d' (ys'.map (Value.int .i64)) rfl ?_ ?_ ?_ ?_ (nums_one _ _) ?_ ?_ ?_ ?_)
      ·rw [List.length_map, HC2.out]; omega
      ·exact HJ4.out.1
      ·exact HJ4.out.2.1
      ·exact HJ4.out.cells'
      ·unfold maxLen; omega
      ·omega
      ·exact hw4
      intro X2 cx2 w5 hown5 hc5
      intros
      have hcr5 := hcr4.then hc5 (fun k hk h => by have := own_of hown4 k h; omega)
      go_wp2
      go_ret
      have hlo : out.length = p := by have := hown4.1; simp at this; have := HC1.out; omega
      have hlen : (mergeL xs ys).length = p + n' + m' := by rw [HMG.out, List.length_append, List.length_append, hlo, HC1.out, HC2.out]; omega
      refine ⟨⟨X2, cx2, by rw [hlen]; rfl, ?_⟩, hcr5⟩
      rw [hlen, HMG.out, List.map_append, List.map_append]
      exact hown5
    ·have hmm : mergeL xs' ys' = xs' ++ ys' := by
      have : xs' = [] ∨ ys' = [] := by
       first
        | exact .inr (List.eq_nil_of_length_eq_zero (by omega))
        | exact .inl (List.eq_nil_of_length_eq_zero (by omega))
      rcases this with rfl | rfl
      ·rw [mergeL_nil']; rfl
      ·rw [mergeL_nil, List.append_nil]
     have HMG := hid (hmg.out.trans (by rw [hmm])); clear hmm hmg
     have hout : p + n' + m' ≤ n + m := by omega
     have HI := hid hI; clear hI
     have HJ := hid hJ; clear hJ
     have HC1 := hid hl1
     have HC2 := hid hl2; clear hl1 hl2
     have hpn : p + n' ≤ n + m := by omega
     go_wp2_with (at_builtin; refine append_gen (o := ⟨some 50, _, _, _, _, _⟩) rfl _ _ 37 rfl w.heap.size 3 (.int .i64 0) 1 8 Tryz.underlying37 infoI rfl (by decide) X cx p (out.map (Value.int .i64)) rfl hown A' n' c' (xs'.map (Value.int .i64)) rfl ?_ ?_ ?_ ?_ (nums_one _ _) ?_ ?_ ?_ ?_)
     ·rw [List.length_map, HC1.out]; omega
     ·exact HI.out.1
     ·exact HI.out.2.1
     ·exact HI.out.cells'
     ·unfold maxLen; omega
     ·omega
     ·exact hwr
     intro X1 cx1 w4 hown4 hc4
     intros
     have ox := own_of hown
     have hcr4 := hcr.then hc4 (fun k hk h => by have := ox k h; omega)
     have HJ4 := hid (HJ.out.chg hc4 (fun k _ hk h => by have := ox k h; have := hGG.out k hk; omega))
     have hw4 := hcr4.size
     clear hc4 ox hown
     go_wp2_with (at_builtin; refine append_gen (o := ⟨some 52, _, _, _, _, _⟩) rfl _ _ 37 rfl w.heap.size 3 (.int .i64 0) 1 8 Tryz.underlying37 infoI rfl (by decide) X1 cx1 (p + n') _ rfl hown4 B' m' d' (ys'.map (Value.int .i64)) rfl ?_ ?_ ?_ ?_ (nums_one _ _) ?_ ?_ ?_ ?_)
     ·rw [List.length_map, HC2.out]; omega
     ·exact HJ4.out.1
     ·exact HJ4.out.2.1
     ·exact HJ4.out.cells'
     ·unfold maxLen; omega
     ·omega
     ·exact hw4
     intro X2 cx2 w5 hown5 hc5
     intros
     have hcr5 := hcr4.then hc5 (fun k hk h => by have := own_of hown4 k h; omega)
     go_wp2
     go_ret
     have hlo : out.length = p := by have := hown4.1; simp at this; have := HC1.out; omega
     have hlen : (mergeL xs ys).length = p + n' + m' := by rw [HMG.out, List.length_append, List.length_append, hlo, HC1.out, HC2.out]; omega
     refine ⟨⟨X2, cx2, by rw [hlen]; rfl, ?_⟩, hcr5⟩
     rw [hlen, HMG.out, List.map_append, List.map_append]
     exact hown5
  ·have hrf : rgtS (-1) ys = false := by simpa using hr'
   rw [hr, hrf]
   have h1 := setRight_any F A n c xs w H.out
   have h2 := setRight_any G B m d ys w H'.out
   rw [hr] at h1
   rw [hrf] at h2
   have H1 := hid h1; clear h1
   have H2 := hid h2; clear h2
   clear hr hr' hrf
   go_enter Tryz.func78, Tryz.ntmps78
   go_wp2_with fail
   refine H1.out.mono ?_
   rintro e w' ⟨rfl, rfl⟩
   go_wp2_with fail
   refine H2.out.mono ?_
   rintro e w' ⟨rfl, rfl⟩
   go_wp2_with fail
   go_ret
   exact ⟨GivesInts.nil _ _, Chg.refl _ _⟩
 ·have hrf : rgtS (-1) xs = false := by simpa using hr
  rw [hrf]
  have h1 := setRight_any F A n c xs w H.out
  rw [hrf] at h1
  have H1 := hid h1; clear h1
  clear hr hrf
  go_enter Tryz.func78, Tryz.ntmps78
  go_wp2_with fail
  refine H1.out.mono ?_
  rintro e w' ⟨rfl, rfl⟩
  go_wp2_with fail
  go_ret
  exact ⟨GivesInts.nil _ _, Chg.refl _ _⟩
theorem drewN2 (w : World) (q n : Nat) : ∃ m, (w.drewN q).drewN n = w.drewN m := ⟨_, World.drewN_drewN ..⟩
theorem refRight15 (F : Nat → Prop) (A : Option Addr) (n c : Nat) (xs : List Int) (w : World) (h : IntsAt F w A n c xs) :
  Calls Tryz.prog 22 #[.slice A n c] w fun e w' => e = .returned (.bool (rgtS (-1) xs)) ∧ ∃ q, w' = w.drewN q := by
 have hln := hid h.2.2.2.1
 have hn := h.2.1
 have hc := h.2.2.1
 have H := hid h
 clear h
 go_enter Tryz.func22, Tryz.ntmps22
 go_wp2_with fail
 go_loopw [3] (fun i wr => ∃ (k q : Nat), k ≤ n ∧ i = .int .i64 k ∧ wr = w.drewN q ∧ Hid (rgtS (-1) xs = rgtS (if k = 0 then -1 else xs.getD (k - 1) 0) (xs.drop k)) ∧ Hid (k ≠ 0 → 0 ≤ xs.getD (k - 1) 0)) (fun i _ => n - (intOf i).toNat)
 case atStart => exact ⟨0, 0, Nat.zero_le _, rfl, rfl, hid rfl, hid (fun h => absurd rfl h)⟩
 case round =>
  obtain ⟨k, q, hk, rfl, rfl, hr, hp0⟩ := hrel
  by_cases hlt : k < n
  ·have hd := hid (drop_cons (d := (0 : Int)) (xs := xs) (k := k) (by rw [hln.out]; exact hlt))
   have hr2 := hr.out
   rw [hd.out] at hr2
   cases k with
   | zero =>
    obtain ⟨g, o, rfl, _, _, hcell⟩ := H.out.at_ hlt
    simp only [Nat.add_zero] at hcell
    simp only [if_true, rgtS] at hr2
    have HR2 := hid hr2; clear hr2
    generalize hy : xs.getD 0 0 = y at *
    have hyy := hid hy; clear hy
    by_cases hle : y < 0
    ·have hd0 : decide (y < 0) = true := decide_eq_true (by omega)
     go_wp2_with fail
     go_quiet (fail)
     go_wp2
     go_ret
     exact ⟨by rw [HR2.out, if_pos (by omega)]; rfl, drewN2 _ _ _⟩
    ·have hd0 : decide (y < 0) = false := decide_eq_false (by omega)
     go_wp2_with fail
     go_quiet (fail)
     go_wp2
     go_roundw
     case rel => exact ⟨1, _, by omega, by go_num, rfl, hid (by rw [HR2.out, if_neg (by omega)]; show rgtS y _ = rgtS (xs.getD 0 0) _; rw [hyy.out]), hid (fun _ => by show 0 ≤ xs.getD 0 0; rw [hyy.out]; omega)⟩
     case measure => simp [intOf]; omega
   | succ j =>
    obtain ⟨g, o, rfl, _, _, hcell⟩ := H.out.at_ hlt
    obtain ⟨g2, o2, e2, _, _, hcell2⟩ := H.out.at_ (show j < n by omega)
    injection e2 with e2
    injection e2 with e3 e4
    subst e3 e4
    simp only [Nat.add_sub_cancel, rgtS, Nat.succ_ne_zero, if_false] at hr2
    have HR2 := hid hr2; clear hr2
    generalize hy : xs.getD (j + 1) 0 = y at *
    generalize hz : xs.getD j 0 = z at *
    have hyy := hid hy; clear hy
    have hzz := hid hz; clear hz
    have hz0 : 0 ≤ z := by have h9 : 0 ≤ xs.getD j 0 := hp0.out (by omega); rw [hzz.out] at h9; exact h9
    have hj0 : decide ((0 : Int) < (j : Int) + 1) = true := decide_eq_true (by omega)
    have hcase : (y < 0) ∨ (0 ≤ y ∧ y ≤ z) ∨ (0 ≤ y ∧ z < y) := by omega
    rcases hcase with hle | ⟨hle, hyz⟩ | ⟨hle, hyz⟩
    ·have hd0 : decide (y < 0) = true := decide_eq_true (by omega)
     go_wp2_with fail
     go_quiet (fail)
     go_wp2
     go_ret
     exact ⟨by rw [HR2.out, if_pos (by omega)]; rfl, drewN2 _ _ _⟩
    ·have hd0 : decide (y < 0) = false := decide_eq_false (by omega)
     have hd1 : decide (y ≤ z) = true := decide_eq_true (by omega)
     go_wp2_with fail
     go_quiet (fail)
     go_wp2
     go_ret
     exact ⟨by rw [HR2.out, if_pos (by omega)]; rfl, drewN2 _ _ _⟩
    ·have hd0 : decide (y < 0) = false := decide_eq_false (by omega)
     have hd1 : decide (y ≤ z) = false := decide_eq_false (by omega)
     go_wp2_with fail
     go_quiet (fail)
     go_wp2
     go_roundw
     case rel => exact ⟨j + 1 + 1, _, by omega, by go_num, rfl, hid (by rw [HR2.out, if_neg (by omega)]; show rgtS y _ = rgtS (xs.getD (j + 1) 0) _; rw [hyy.out]), hid (fun _ => by show 0 ≤ xs.getD (j + 1) 0; rw [hyy.out]; omega)⟩
     case measure => simp [intOf]; omega
  ·go_wp2
   go_ret
   have : xs.drop k = [] := List.drop_eq_nil_of_le (by rw [hln.out]; omega)
   exact ⟨by rw [hr.out, this]; rfl, q, rfl⟩
theorem refHas15 (F : Nat → Prop) (A : Option Addr) (n c : Nat) (xs : List Int) (x : Int) (w : World) (h : IntsAt F w A n c xs) :
  Calls Tryz.prog 128 #[.slice A n c, .int .i64 x] w fun e w' => e = .returned (.bool (decide (x ∈ xs))) ∧ w = w' := by
 have hln := hid h.2.2.2.1
 have hn := h.2.1
 have hc := h.2.2.1
 have H := hid h
 clear h
 go_enter Tryz.func128, Tryz.ntmps128
 go_wp2_with fail
 go_loop [5] (fun i => ∃ k : Nat, k ≤ n ∧ i = .int .i64 k ∧ Hid (x ∉ xs.take k)) (fun i => n - (intOf i).toNat)
 case atStart => exact ⟨0, Nat.zero_le _, rfl, hid (by simp)⟩
 case round =>
  obtain ⟨k, hk, rfl, hr⟩ := hrel
  by_cases hlt : k < n
  ·obtain ⟨g, o, rfl, _, _, hcell⟩ := H.out.at_ hlt
   have htk := hid (take_succ' (d := (0 : Int)) (xs := xs) (k := k) (by rw [hln.out]; exact hlt))
   have hmem := hid (show xs.getD k 0 ∈ xs from by rw [show xs.getD k 0 = xs[k]'(by rw [hln.out]; exact hlt) from by simp [hln.out, hlt]]; exact List.getElem_mem _)
   generalize hy : xs.getD k 0 = y at *
   clear hy
   by_cases hxy : y = x
   ·have hm := hmem.out
    rw [hxy] at hm
    subst hxy
    go_wp2
    go_ret
    exact ⟨by simp, rfl⟩
   ·go_wp2
    go_round
    case rel => exact ⟨k + 1, by omega, by go_num, hid (by rw [htk.out]; simp only [List.mem_append, List.mem_singleton, not_or]; exact ⟨hr.out, fun e => hxy e.symm⟩)⟩
    case measure => simp [intOf]; omega
  ·have hm : x ∉ xs := by have := hr.out; rwa [List.take_of_length_le (by rw [hln.out]; omega)] at this
   go_wp2
   go_ret
   exact ⟨by simp, rfl⟩
def andR (a b : List Int) : List Int := if rgtS (-1) a && rgtS (-1) b then a.filter (fun x => decide (x ∈ b)) else []
theorem andR_eq (a b : List Int) : andR a b = andL a b := by
 unfold andR andL keptL
 cases rgtS (-1) a <;> cases rgtS (-1) b <;> simp
def RAInv (w : World) (q : Nat) (xs ys : List Int) (n : Nat) (v i : Value) (wr : World) : Prop :=
 ∃ (k : Nat) (X : Option Addr) (cx : Nat) (m : Nat), k ≤ n ∧ m ≤ k ∧ i = .int .i64 k ∧ v = .slice X m cx ∧ Hid (((xs.take k).filter (fun x => decide (x ∈ ys))).length = m) ∧ wr.ownsRow w.heap.size 3 1 (.slice X m cx) m (((xs.take k).filter (fun x => decide (x ∈ ys))).map (Value.int .i64)) ∧ Chg Nothing w wr
theorem refAnd_any (F G : Nat → Prop) (A B : Option Addr) (n c m d : Nat) (xs ys : List Int) (w : World) (h : IntsAt F w A n c xs) (h' : IntsAt G w B m d ys) (hb : n * 8 ≤ 140737488351232) :
  Calls Tryz.prog 83 #[.slice A n c, .slice B m d] w fun e w' => GivesInts w.heap.size w' e (andR xs ys) ∧ Chg Nothing w w' := by
 have hln := hid h.2.2.2.1
 have hn := h.2.1
 have hc := h.2.2.1
 have H := hid h; clear h
 have H' := hid h'; clear h'
 unfold andR
 by_cases hr : rgtS (-1) xs = true
 ·have h1 := refRight15 F A n c xs w H.out
  rw [hr] at h1
  have H1 := hid h1; clear h1
  by_cases hr' : rgtS (-1) ys = true
  ·rw [hr, hr']
   simp only [Bool.and_self, if_true]
   have h2 := fun q => refRight15 G B m d ys (w.drewN q) (H'.out.chg ((Chg.refl Nothing w).drewN q) (fun _ _ _ h => h))
   rw [hr'] at h2
   have H2 := hid h2; clear h2
   clear hr hr'
   go_enter Tryz.func83, Tryz.ntmps83
   go_wp2_with fail
   refine H1.out.mono ?_
   rintro e w' ⟨rfl, q, rfl⟩
   go_wp2_with fail
   refine (H2.out q).mono ?_
   rintro e w' ⟨rfl, q2, rfl⟩
   go_wp2_with fail
   go_loopw [5, 6] (fun v i wr => RAInv w q xs ys n v i wr) (fun _ i _ => n - (intOf i).toNat)
   case atStart => exact ⟨0, none, 0, 0, Nat.zero_le _, Nat.le_refl _, rfl, rfl, hid rfl, World.ownsRow_nil _ _ _ _, (Chg.refl _ _).drewN _⟩
   case round =>
    obtain ⟨k, X, cx, p, hk, hpk, rfl, rfl, hp, hown, hcr⟩ := hrel
    have hwr := hcr.size
    by_cases hlt : k < n
    ·obtain ⟨g, o, rfl, _, hgs, hcell⟩ := H.out.at_ hlt
     have hcellr : wr.cell? ⟨g, o + k, none⟩ = some (.int .i64 (xs.getD k 0)) := (World.cell?_of_block (w := w) (hcr.block g hgs id)).trans hcell
     clear hcell
     have htk := hid (take_succ' (d := (0 : Int)) (xs := xs) (k := k) (by rw [hln.out]; exact hlt))
     generalize hy : xs.getD k 0 = y at *
     clear hy
     have hfilt : (xs.take (k + 1)).filter (fun x => decide (x ∈ ys)) = (xs.take k).filter (fun x => decide (x ∈ ys)) ++ (if decide (y ∈ ys) = true then [y] else []) := by
      rw [htk.out, List.filter_append]; congr 1; by_cases hm : y ∈ ys <;> simp [hm]
     have HFI := hid hfilt; clear hfilt
     have hhas := hid (refHas15 G B m d ys y wr (H'.out.chg hcr (fun _ _ _ h => h)))
     cases hpy : decide (y ∈ ys) with
     | true =>
      rw [hpy] at hhas
      go_wp2_with fail
      refine hhas.out.mono ?_
      rintro e w3 ⟨rfl, rfl⟩
      go_wp2_with (at_builtin; refine append_one rfl _ _ 37 rfl w.heap.size 3 (.int .i64 0) 8 Tryz.underlying37 infoI rfl X cx p _ rfl hown (.int .i64 y) rfl rfl ?_ ?_ ?_ ?_)
      ·omega
      ·omega
      ·exact hwr
      intro X' cx' w4 hown4 hc4
      intros
      have hcr4 := hcr.then hc4 (fun k hk h => by have := own_of hown k h; omega)
      clear hown hc4
      go_wp2
      go_roundw
      case rel => exact ⟨k + 1, X', cx', p + 1, by omega, by omega, by go_num, rfl, hid (by rw [HFI.out, if_pos hpy, List.length_append, hp.out]; rfl), by rw [HFI.out, if_pos hpy, List.map_append]; exact hown4, hcr4⟩
      case measure => simp [intOf]; omega
     | false =>
      rw [hpy] at hhas
      go_wp2_with fail
      refine hhas.out.mono ?_
      rintro e w3 ⟨rfl, rfl⟩
      go_wp2
      go_roundw
      case rel => exact ⟨k + 1, X, cx, p, by omega, by omega, by go_num, rfl, hid (by rw [HFI.out, if_neg (by simp [hpy]), List.append_nil, hp.out]), by rw [HFI.out, if_neg (by simp [hpy]), List.append_nil]; exact hown, hcr⟩
      case measure => simp [intOf]; omega
    ·have htk : xs.take k = xs := List.take_of_length_le (by rw [hln.out]; omega)
     rw [htk] at hp hown
     clear htk
     go_wp2
     go_ret
     refine ⟨⟨X, cx, ?_, ?_⟩, hcr⟩
     ·rw [hp.out]; rfl
     ·rw [hp.out]; exact hown
  ·have hrf : rgtS (-1) ys = false := by simpa using hr'
   rw [hr, hrf]
   have h2 := fun q => refRight15 G B m d ys (w.drewN q) (H'.out.chg ((Chg.refl Nothing w).drewN q) (fun _ _ _ h => h))
   rw [hrf] at h2
   have H2 := hid h2; clear h2
   clear hr hr' hrf
   go_enter Tryz.func83, Tryz.ntmps83
   go_wp2_with fail
   refine H1.out.mono ?_
   rintro e w' ⟨rfl, q, rfl⟩
   go_wp2_with fail
   refine (H2.out q).mono ?_
   rintro e w' ⟨rfl, q2, rfl⟩
   go_wp2_with fail
   go_ret
   exact ⟨GivesInts.nil _ _, (Chg.refl _ _).drewN _⟩
 ·have hrf : rgtS (-1) xs = false := by simpa using hr
  rw [hrf]
  have h1 := refRight15 F A n c xs w H.out
  rw [hrf] at h1
  have H1 := hid h1; clear h1
  clear hr hrf
  go_enter Tryz.func83, Tryz.ntmps83
  go_wp2_with fail
  refine H1.out.mono ?_
  rintro e w' ⟨rfl, q, rfl⟩
  go_wp2_with fail
  go_ret
  exact ⟨GivesInts.nil _ _, (Chg.refl _ _).drewN _⟩
def putGo (x : Int) : List Int → Bool → List Int
 | [], done => if done then [] else [x]
 | y :: ys, done => (if x ≤ y ∧ done = false then [x] else []) ++ ((if y ≠ x then [y] else []) ++ putGo x ys (done || decide (x ≤ y)))
theorem putGo_len (x : Int) (ys : List Int) (d : Bool) : (putGo x ys d).length ≤ ys.length + (if d then 0 else 1) := by
 induction ys generalizing d with
 | nil => cases d <;> simp [putGo]
 | cons y ys ih =>
  simp only [putGo, List.length_append, List.length_cons]
  have := ih (d || decide (x ≤ y))
  by_cases h1 : x ≤ y <;> cases d <;> by_cases h2 : y = x <;> simp [h1, h2] at this ⊢ <;> omega
def PutInv (w : World) (xs : List Int) (x : Int) (n : Nat) (v dn i : Value) (wr : World) : Prop :=
 ∃ (k : Nat) (done : Bool) (X : Option Addr) (cx m : Nat) (out : List Int), k ≤ n ∧ m ≤ k + (if done then 1 else 0) ∧ i = .int .i64 k ∧ dn = .bool done ∧ v = .slice X m cx ∧ Hid (putGo x xs false = out ++ putGo x (xs.drop k) done) ∧
  wr.ownsRow w.heap.size 3 1 (.slice X m cx) m (out.map (Value.int .i64)) ∧ Chg Nothing w wr
theorem put_any (F : Nat → Prop) (A : Option Addr) (n c : Nat) (xs : List Int) (x : Int) (w : World) (h : IntsAt F w A n c xs) (hF : ∀ k, F k → k < w.heap.size) (hb : (n + 1) * 8 ≤ 140737488355328) :
    Calls Tryz.prog 129 #[.slice A n c, .int .i64 x] w fun e w' => GivesInts w.heap.size w' e (putGo x xs false) ∧ Chg Nothing w w' := by
  have hln := hid h.2.2.2.1
  have hn := h.2.1
  have hc := h.2.2.1
  have H := hid h; clear h
  have hFF := hid hF; clear hF
  go_enter Tryz.func129, Tryz.ntmps129
  go_wp2_with fail
  go_loopw [5, 6, 7] (fun v dn i wr => PutInv w xs x n v dn i wr) (fun _ _ i _ => n - (intOf i).toNat)
  case atStart => exact ⟨0, false, none, 0, 0, [], Nat.zero_le _, Nat.le_refl _, rfl, rfl, rfl, hid rfl, World.ownsRow_nil _ _ _ _, Chg.refl _ _⟩
  case round =>
    obtain ⟨k, done, X, cx, m, out, hk, hmk, rfl, rfl, rfl, hp, hown, hcr⟩ := hrel
    have hwr := hcr.size
    by_cases hlt : k < n
    · obtain ⟨g, o, rfl, hFg, hgs, hcell⟩ := (H.out.chg hcr (fun _ _ _ h => h)).at_ hlt
      have hgw := hFF.out g hFg
      have hd := drop_cons (d := (0 : Int)) (xs := xs) (k := k) (by rw [hln.out]; exact hlt)
      have hp2 := hp.out
      rw [hd] at hp2
      clear hd hp
      generalize hy : xs.getD k 0 = y at *
      clear hy
      have hcase : (x ≤ y ∧ done = false) ∨ ¬ (x ≤ y ∧ done = false) := by by_cases h : (x ≤ y ∧ done = false) <;> simp [h]
      rcases hcase with ⟨hxy, rfl⟩ | hno
      · -- x goes in here
        simp only [Bool.false_eq_true, if_false] at hmk
        have hown' := hid hown
        go_wp2_with (at_builtin; refine append_one (o := ⟨some 27, _, _, _, _, _⟩) rfl _ _ 37 rfl w.heap.size 3 (.int .i64 0) 8 Tryz.underlying37 infoI rfl X cx m _ rfl hown (.int .i64 x) rfl rfl ?_ ?_ ?_ ?_)
        · omega
        · omega
        · exact hwr
        intro X' cx' w4 hown4 hc4
        intros
        have hc4' : Chg Nothing w w4 := hcr.then hc4 (fun k hk h => by have := own_of hown k h; omega)
        have hcell4 : w4.cell? ⟨g, o + k, none⟩ = some (.int .i64 y) := (World.cell?_of_block (w := wr) (hc4.block g (World.block_lt_of_cell? wr _ hcell) (fun h => by have := own_of hown g h; omega))).trans hcell
        have hw4 := hc4'.size
        clear hown' hown hc4 hcell
        by_cases hyx : y = x
        · have hp3 : putGo x xs false = (out ++ [x]) ++ putGo x (xs.drop (k + 1)) true := by rw [hp2]; simp [putGo, hyx]
          have HP3 := hid hp3; clear hp3 hp2
          subst hyx
          go_wp2
          go_roundw
          case rel => exact ⟨k + 1, true, X', cx', m + 1, out ++ [y], by omega, by simp; omega, by go_num, rfl, rfl, HP3, by rw [List.map_append]; exact hown4, hc4'⟩
          case measure => simp [intOf]; omega
        · have hp3 : putGo x xs false = (out ++ [x] ++ [y]) ++ putGo x (xs.drop (k + 1)) true := by rw [hp2]; simp [putGo, hyx, hxy]
          have HP3 := hid hp3; clear hp3 hp2
          have hxy' : x < y := by omega
          go_wp2_with (at_builtin; refine append_one (o := ⟨some 40, _, _, _, _, _⟩) rfl _ _ 37 rfl w.heap.size 3 (.int .i64 0) 8 Tryz.underlying37 infoI rfl X' cx' (m + 1) _ rfl hown4 (.int .i64 y) rfl rfl ?_ ?_ ?_ ?_)
          · omega
          · omega
          · exact hw4
          intro X2 cx2 w5 hown5 hc5
          intros
          have hc5' : Chg Nothing w w5 := hc4'.then hc5 (fun k hk h => by have := own_of hown4 k h; omega)
          clear hown4 hc5
          go_wp2
          go_roundw
          case rel => exact ⟨k + 1, true, X2, cx2, m + 1 + 1, out ++ [x] ++ [y], by omega, by simp; omega, by go_num, rfl, rfl, HP3, by simpa using hown5, hc5'⟩
          case measure => simp [intOf]; omega
      · have hdd : (done || decide (x ≤ y)) = done := by
          cases done
          · simp at hno; simp; omega
          · rfl
        have hno' : (x ≤ y ∧ done = true) ∨ y < x := by
          cases done
          · simp at hno; omega
          · simp; omega
        have hmk' : m ≤ k + 1 := by cases done <;> simp at hmk <;> omega
        by_cases hyx : y = x
        · have hp3 : putGo x xs false = out ++ putGo x (xs.drop (k + 1)) done := by rw [hp2, putGo, if_neg hno, hdd]; simp [hyx]
          have HP3 := hid hp3; clear hp3 hp2 hno hdd
          subst hyx
          have hdone : done = true := by rcases hno' with ⟨_, h⟩ | h
                                         · exact h
                                         · omega
          subst hdone
          clear hno'
          go_wp2
          go_roundw
          case rel => exact ⟨k + 1, true, X, cx, m, out, by omega, by simp at hmk ⊢; omega, by go_num, rfl, rfl, HP3, hown, hcr⟩
          case measure => simp [intOf]; omega
        · have hp3 : putGo x xs false = (out ++ [y]) ++ putGo x (xs.drop (k + 1)) done := by rw [hp2, putGo, if_neg hno, hdd]; simp [hyx]
          have HP3 := hid hp3; clear hp3 hp2 hno hdd
          rcases hno' with ⟨hxy, rfl⟩ | hyx'
          · have hxy' : x < y := by omega
            simp only [if_true] at hmk
            go_wp2_with (at_builtin; refine append_one (o := ⟨some 40, _, _, _, _, _⟩) rfl _ _ 37 rfl w.heap.size 3 (.int .i64 0) 8 Tryz.underlying37 infoI rfl X cx m _ rfl hown (.int .i64 y) rfl rfl ?_ ?_ ?_ ?_)
            · omega
            · omega
            · exact hwr
            intro X2 cx2 w5 hown5 hc5
            intros
            have hc5' : Chg Nothing w w5 := hcr.then hc5 (fun k hk h => by have := own_of hown k h; omega)
            clear hown hc5
            go_wp2
            go_roundw
            case rel => exact ⟨k + 1, true, X2, cx2, m + 1, out ++ [y], by omega, by simp; omega, by go_num, rfl, rfl, HP3, by simpa using hown5, hc5'⟩
            case measure => simp [intOf]; omega
          · go_wp2_with (at_builtin; refine append_one (o := ⟨some 40, _, _, _, _, _⟩) rfl _ _ 37 rfl w.heap.size 3 (.int .i64 0) 8 Tryz.underlying37 infoI rfl X cx m _ rfl hown (.int .i64 y) rfl rfl ?_ ?_ ?_ ?_)
            any_goals (first | omega | exact hwr)
            intro X2 cx2 w5 hown5 hc5
            intros
            have hc5' : Chg Nothing w w5 := hcr.then hc5 (fun k hk h => by have := own_of hown k h; omega)
            clear hown hc5
            go_wp2
            go_roundw
            case rel => exact ⟨k + 1, done, X2, cx2, m + 1, out ++ [y], by omega, by cases done <;> simp at hmk ⊢ <;> omega, by go_num, rfl, rfl, HP3, by simpa using hown5, hc5'⟩
            case measure => simp [intOf]; omega
    · have hd : xs.drop k = [] := List.drop_eq_nil_of_le (by rw [hln.out]; omega)
      rw [hd] at hp
      clear hd
      have hlo : out.length = m := by have := hown.1; simpa using this
      have HLO := hid hlo; clear hlo
      cases done with
      | true =>
        have hpe := hp.out
        simp only [putGo, if_true, List.append_nil] at hpe
        have HPE := hid hpe
        clear hp hpe hmk
        go_wp2
        go_ret
        rw [HPE.out]
        exact ⟨⟨X, cx, by rw [HLO.out]; rfl, by rw [HLO.out]; exact hown⟩, hcr⟩
      | false =>
        have hpe := hp.out
        simp only [putGo, Bool.false_eq_true, if_false] at hpe
        have HPE := hid hpe
        have hmk2 : m ≤ k := by simpa using hmk
        clear hp hpe hmk
        go_wp2_with (at_builtin; refine append_one (o := ⟨some 46, _, _, _, _, _⟩) rfl _ _ 37 rfl w.heap.size 3 (.int .i64 0) 8 Tryz.underlying37 infoI rfl X cx m _ rfl hown (.int .i64 x) rfl rfl ?_ ?_ ?_ ?_)
        · omega
        · omega
        · exact hwr
        intro X2 cx2 w5 hown5 hc5
        intros
        have hc5' : Chg Nothing w w5 := hcr.then hc5 (fun k hk h => by have := own_of hown k h; omega)
        clear hown hc5
        go_wp2
        go_ret
        have hl : (putGo x xs false).length = m + 1 := by rw [HPE.out, List.length_append, HLO.out]; rfl
        exact ⟨⟨X2, cx2, by rw [hl]; rfl, by rw [hl, HPE.out]; simpa using hown5⟩, hc5'⟩
def mapIf (p : Int → Bool) (f : Int → Int) (xs : List Int) : List Int := (xs.filter p).map f
theorem mapIf_snoc (p : Int → Bool) (f : Int → Int) (xs : List Int) (y : Int) : mapIf p f (xs ++ [y]) = mapIf p f xs ++ (if p y = true then [f y] else []) := by
 unfold mapIf; rw [List.filter_append, List.map_append]; congr 1; by_cases h : p y = true <;> simp [h]
def MIInv (w : World) (p : Int → Bool) (f : Int → Int) (xs : List Int) (n : Nat) (v i : Value) (wr : World) : Prop :=
 ∃ (k : Nat) (X : Option Addr) (cx : Nat) (m : Nat), k ≤ n ∧ m ≤ k ∧ i = .int .i64 k ∧ v = .slice X m cx ∧ Hid ((mapIf p f (xs.take k)).length = m) ∧ wr.ownsRow w.heap.size 3 1 (.slice X m cx) m ((mapIf p f (xs.take k)).map (Value.int .i64)) ∧ Chg Nothing w wr
def shiftR (l : List Int) (n : Int) : List Int := if rgtS (-1) l && decide (0 ≤ n) then mapIf (fun z => decide (n ≤ z)) (fun z => z - n) l else []
theorem shiftR_eq (l : List Int) (n : Int) : shiftR l n = shiftL l n := by
 unfold shiftR shiftL mapIf keptL
 by_cases hn : n < 0
 ·have : ¬ 0 ≤ n := by omega
  simp [hn, this]
 ·have : 0 ≤ n := by omega
  cases rgtS (-1) l <;> simp [hn, this]
theorem refShift_any (F : Nat → Prop) (A : Option Addr) (n c : Nat) (xs : List Int) (x : Int) (w : World) (h : IntsAt F w A n c xs) (hb : n * 8 ≤ 140737488351232) (hx : x ≤ 9223372036854775807) (hxs : ∀ z ∈ xs, z ≤ 9223372036854775807) :
  Calls Tryz.prog 82 #[.slice A n c, .int .i64 x] w fun e w' => GivesInts w.heap.size w' e (shiftR xs x) ∧ Chg Nothing w w' := by
 have hln := hid h.2.2.2.1
 have hn := h.2.1
 have hc := h.2.2.1
 have H := hid h; clear h
 have h1 := refRight15 F A n c xs w H.out
 unfold shiftR
 have HX := hid hxs; clear hxs
 by_cases hr : rgtS (-1) xs = true
 ·rw [hr] at h1 ⊢
  have H1 := hid h1; clear h1
  by_cases hx0 : 0 ≤ x
  ·rw [show (true && decide (0 ≤ x)) = true from by simp [hx0]]
   simp only [if_true]
   have hnn := hid (rightB_lt hr)
   clear hr
   have hdx : decide (x < 0) = false := decide_eq_false (by omega)
   go_enter Tryz.func82, Tryz.ntmps82
   go_wp2_with fail
   refine H1.out.mono ?_
   rintro e w' ⟨rfl, q, rfl⟩
   go_wp2_with fail
   go_loopw [5, 6] (fun v i wr => MIInv w (fun z => decide (x ≤ z)) (fun z => z - x) xs n v i wr) (fun _ i _ => n - (intOf i).toNat)
   case atStart => exact ⟨0, none, 0, 0, Nat.zero_le _, Nat.le_refl _, rfl, rfl, hid rfl, World.ownsRow_nil _ _ _ _, (Chg.refl _ _).drewN _⟩
   case round =>
    obtain ⟨k, X, cx, p, hk, hpk, rfl, rfl, hp, hown, hcr⟩ := hrel
    have hwr := hcr.size
    by_cases hlt : k < n
    ·obtain ⟨g, o, rfl, _, hgs, hcell⟩ := (H.out.chg hcr (fun _ _ _ h => h)).at_ hlt
     have hmem : xs.getD k 0 ∈ xs := by rw [show xs.getD k 0 = xs[k]'(by rw [hln.out]; exact hlt) from by simp [hln.out, hlt]]; exact List.getElem_mem _
     have hb1 := HX.out _ hmem
     have hb2 := hnn.out _ hmem
     have hsn := mapIf_snoc (fun z => decide (x ≤ z)) (fun z => z - x) (xs.take k) (xs.getD k 0)
     rw [← take_succ' (d := (0 : Int)) (xs := xs) (k := k) (by rw [hln.out]; exact hlt)] at hsn
     have HSN := hid hsn; clear hsn hmem
     generalize hy : xs.getD k 0 = y at *
     clear hy
     by_cases hxy : x ≤ y
     ·go_wp2_with (at_builtin; refine append_one rfl _ _ 37 rfl w.heap.size 3 (.int .i64 0) 8 Tryz.underlying37 infoI rfl X cx p _ rfl hown (.int .i64 (y - x)) rfl rfl ?_ ?_ ?_ ?_)
      any_goals (first | omega | exact hwr)
      intro X' cx' w4 hown4 hc4
      intros
      have hcr4 := hcr.then hc4 (fun k hk h => by have := own_of hown k h; omega)
      clear hown hc4
      go_wp2
      go_roundw
      case rel => exact ⟨k + 1, X', cx', p + 1, by omega, by omega, by go_num, rfl, hid (by rw [HSN.out]; simp [hxy, hp.out]), by rw [HSN.out]; simpa [hxy] using hown4, hcr4⟩
      case measure => simp [intOf]; omega
     ·go_wp2
      go_roundw
      case rel => exact ⟨k + 1, X, cx, p, by omega, by omega, by go_num, rfl, hid (by rw [HSN.out]; simp [hxy, hp.out]), by rw [HSN.out]; simpa [hxy] using hown, hcr⟩
      case measure => simp [intOf]; omega
    ·have htk : xs.take k = xs := List.take_of_length_le (by rw [hln.out]; omega)
     rw [htk] at hp hown
     clear htk
     go_wp2
     go_ret
     exact ⟨⟨X, cx, by rw [hp.out]; rfl, by rw [hp.out]; exact hown⟩, hcr⟩
  ·rw [show (true && decide (0 ≤ x)) = false from by simp; omega]
   have hdx : decide (x < 0) = true := decide_eq_true (by omega)
   clear hr
   go_enter Tryz.func82, Tryz.ntmps82
   go_wp2_with fail
   refine H1.out.mono ?_
   rintro e w' ⟨rfl, q, rfl⟩
   go_wp2_with fail
   go_ret
   exact ⟨GivesInts.nil _ _, (Chg.refl _ _).drewN _⟩
 ·have hrf : rgtS (-1) xs = false := by simpa using hr
  rw [hrf] at h1 ⊢
  have H1 := hid h1; clear h1
  clear hr hrf
  go_enter Tryz.func82, Tryz.ntmps82
  go_wp2_with fail
  refine H1.out.mono ?_
  rintro e w' ⟨rfl, q, rfl⟩
  go_wp2_with fail
  go_ret
  exact ⟨GivesInts.nil _ _, (Chg.refl _ _).drewN _⟩
theorem rightB_pair {a : Int} {xs : List Int} (h : rgtS a xs = true) : xs.Pairwise (· < ·) := by
 induction xs generalizing a with
 | nil => exact List.Pairwise.nil
 | cons z zs ih =>
  simp only [rgtS] at h
  split at h
  ·cases h
  ·exact List.pairwise_cons.2 ⟨fun u hu => rightB_lt h u hu, ih h⟩
theorem rising_get {xs : List Int} (h : rgtS (-1) xs = true) {i j : Nat} (hij : i < j) (hj : j < xs.length) : xs.getD i 0 < xs.getD j 0 := by
 have := List.pairwise_iff_getElem.1 (rightB_pair h) i j (by omega) hj hij
 simpa [hj, show i < xs.length from by omega] using this
def RNInv (w : World) (xs : List Int) (N : Nat) (v a i : Value) (wr : World) : Prop :=
 ∃ (k at_ : Nat) (X : Option Addr) (cx m : Nat), k ≤ N ∧ m ≤ k ∧ at_ ≤ xs.length ∧ i = .int .i64 k ∧ a = .int .i64 at_ ∧ v = .slice X m cx ∧ Hid (((below_ k).filter (fun z => !decide (z ∈ xs))).length = m) ∧ wr.ownsRow w.heap.size 3 1 (.slice X m cx) m (((below_ k).filter (fun z => !decide (z ∈ xs))).map (Value.int .i64)) ∧ Hid (∀ j, j < at_ → xs.getD j 0 < k) ∧ Hid (at_ < xs.length → (k : Int) ≤ xs.getD at_ 0) ∧ Chg Nothing w wr
set_option maxRecDepth 1000000 in
theorem refNot15 (F : Nat → Prop) (A : Option Addr) (n c : Nat) (xs : List Int) (x : Int) (w : World) (h : IntsAt F w A n c xs) (hb : n * 8 ≤ 140737488351232) :
  Calls Tryz.prog 81 #[.slice A n c, .int .i64 x] w fun e w' => GivesInts w.heap.size w' e (notL xs x) ∧ Chg Nothing w w' := by
 have hln := hid h.2.2.2.1
 have hn := h.2.1
 have hc := h.2.2.1
 have H := hid h; clear h
 have hnl : notL xs x = if rgtS (-1) xs then (below_ (clip x)).filter (fun z => !decide (z ∈ xs)) else [] := rfl
 rw [hnl]
 clear hnl
 have h1 := refRight15 F A n c xs w H.out
 by_cases hr : rgtS (-1) xs = true
 ·rw [hr] at h1
  rw [if_pos hr]
  have H1 := hid h1; clear h1
  have HR := hid hr; clear hr
  obtain ⟨N, hN⟩ : ∃ N, N = clip x := ⟨_, rfl⟩
  rw [← hN]
  have hN' : (N : Int) = max 0 (min x 100000) := by rw [hN]; unfold clip; omega
  have HN := hid hN'; clear hN' hN
  have hcase : (x ≤ 0 ∧ N = 0) ∨ (0 < x ∧ x ≤ 100000 ∧ x ≤ N ∧ N ≤ x) ∨ (100000 < x ∧ 100000 ≤ (N : Int) ∧ (N : Int) ≤ 100000) := by have := HN.out; omega
  rcases hcase with ⟨hx, rfl⟩ | ⟨hx, hx2, hx3, hx4⟩ | ⟨hx, hx3, hx4⟩
  ·go_enter Tryz.func81, Tryz.ntmps81
   go_wp2_with fail
   refine H1.out.mono ?_
   rintro e w' ⟨rfl, q, rfl⟩
   go_wp2_with fail
   go_loop [5, 7] (fun v i => v = .slice none 0 0 ∧ i = .int .i64 0) (fun _ _ => 0)
   case atStart => exact ⟨rfl, rfl⟩
   case round =>
    obtain ⟨rfl, rfl⟩ := hrel
    go_wp2
    go_ret
    exact ⟨GivesInts.nil _ _, (Chg.refl _ _).drewN _⟩
  all_goals
   go_enter Tryz.func81, Tryz.ntmps81
   go_wp2_with fail
   refine H1.out.mono ?_
   rintro e w' ⟨rfl, q, rfl⟩
   go_wp2_with fail
   go_loopw [5, 6, 7] (fun v a i wr => RNInv w xs N v a i wr) (fun _ _ i _ => N - (intOf i).toNat)
   case atStart => exact ⟨0, 0, none, 0, 0, Nat.zero_le _, Nat.le_refl _, Nat.zero_le _, rfl, rfl, rfl, hid rfl, World.ownsRow_nil _ _ _ _, hid (fun j hj => absurd hj (by omega)), hid (fun hh => by
     have h0 := rightB_lt HR.out (xs.getD 0 0) (by rw [show xs.getD 0 0 = xs[0]'hh from by simp [hh]]; exact List.getElem_mem _)
     show ((0 : Nat) : Int) ≤ _
     omega), (Chg.refl _ _).drewN _⟩
   case round =>
    obtain ⟨k, a, X, cx, m, hk, hmk, ha, rfl, rfl, rfl, hm, hown, hlo, hhi, hcr⟩ := hrel
    have hwr := hcr.size
    rw [hln.out] at ha
    have hbs := hid (below_succ k)
    rcases Nat.lt_or_ge k N with hlt | hge
    rotate_left
    ·have hkN := Nat.le_antisymm hk hge
     go_wp2
     go_ret
     subst hkN
     exact ⟨⟨X, cx, by rw [hm.out]; rfl, by rw [hm.out]; exact hown⟩, hcr⟩
    ·have hmem := mem_at HR.out (k := a) (x := k) hlo.out hhi.out
     rw [hln.out] at hmem
     have hfilt : (below_ (k + 1)).filter (fun z => !decide (z ∈ xs)) = (below_ k).filter (fun z => !decide (z ∈ xs)) ++ (if decide ((k : Int) ∈ xs) = true then [] else [(k : Int)]) := by
      rw [hbs.out, List.filter_append]; congr 1; by_cases hm : (k : Int) ∈ xs <;> simp [hm]
     have HFI := hid hfilt; clear hfilt
     by_cases hal : a < n
     ·obtain ⟨g, o, rfl, _, hgs, hcell⟩ := (H.out.chg hcr (fun _ _ _ h => h)).at_ hal
      have hhi' := hhi.out (by rw [hln.out]; exact hal)
      have hnext := hid (show a + 1 < xs.length → xs.getD a 0 < xs.getD (a + 1) 0 from fun h => rising_get HR.out (by omega) h)
      have hvv := hid (rfl : xs.getD a 0 = xs.getD a 0)
      by_cases hav : xs.getD a 0 = k
      ·have hM : decide ((k : Int) ∈ xs) = true := by rw [hmem, decide_eq_true hav, decide_eq_true hal]; rfl
       have hM' := hid hM; clear hM hmem
       have HAV := hid hav
       rw [hav] at hcell
       clear hav hhi'
       go_wp2
       go_roundw
       case rel => exact ⟨k + 1, a + 1, X, cx, m, by omega, by omega, by rw [hln.out]; omega, by go_num, by go_num, rfl, hid (by rw [HFI.out, if_pos hM'.out, List.append_nil, hm.out]), by rw [HFI.out, if_pos hM'.out, List.append_nil]; exact hown, hid (fun j hj => by
         rcases Nat.lt_succ_iff_lt_or_eq.1 hj with h | rfl
         ·have := hlo.out j h; omega
         ·rw [HAV.out]; omega), hid (fun h => by have := hnext.out h; rw [HAV.out] at this; omega), hcr⟩
       case measure => simp [intOf]; omega
      ·have hM : decide ((k : Int) ∈ xs) = false := by rw [hmem, decide_eq_false hav, Bool.and_false]
       have hM' := hid hM; clear hM hmem
       have hlt2 : (k : Int) < xs.getD a 0 := by omega
       have HLT := hid hlt2
       generalize hv : xs.getD a 0 = v at hcell hlt2
       clear hv hav hhi'
       go_wp2_with (at_builtin; refine append_one rfl _ _ 37 rfl w.heap.size 3 (.int .i64 0) 8 Tryz.underlying37 infoI rfl X cx m _ rfl hown (.int .i64 k) rfl rfl ?_ ?_ ?_ ?_)
       any_goals (first | omega | exact hwr)
       intro X' cx' w4 hown4 hc4
       intros
       have hcr4 := hcr.then hc4 (fun k hk h => by have := own_of hown k h; omega)
       clear hown hc4
       go_wp2
       go_roundw
       case rel => exact ⟨k + 1, a, X', cx', m + 1, by omega, by omega, by rw [hln.out]; omega, by go_num, rfl, rfl, hid (by rw [HFI.out, hM'.out, if_neg (by decide), List.length_append, hm.out]; rfl), by rw [HFI.out, hM'.out, if_neg (by decide), List.map_append]; exact hown4, hid (fun j hj => by have := hlo.out j hj; omega), hid (fun _ => by have := HLT.out; omega), hcr4⟩
       case measure => simp [intOf]; omega
     ·have hM : decide ((k : Int) ∈ xs) = false := by rw [hmem]; simp [hal]
      have hM' := hid hM; clear hM hmem
      go_wp2_with (at_builtin; refine append_one rfl _ _ 37 rfl w.heap.size 3 (.int .i64 0) 8 Tryz.underlying37 infoI rfl X cx m _ rfl hown (.int .i64 k) rfl rfl ?_ ?_ ?_ ?_)
      any_goals (first | omega | exact hwr)
      intro X' cx' w4 hown4 hc4
      intros
      have hcr4 := hcr.then hc4 (fun k hk h => by have := own_of hown k h; omega)
      clear hown hc4
      go_wp2
      go_roundw
      case rel => exact ⟨k + 1, a, X', cx', m + 1, by omega, by omega, by rw [hln.out]; omega, by go_num, rfl, rfl, hid (by rw [HFI.out, hM'.out, if_neg (by decide), List.length_append, hm.out]; rfl), by rw [HFI.out, hM'.out, if_neg (by decide), List.map_append]; exact hown4, hid (fun j hj => by have := hlo.out j hj; omega), hid (fun h => by rw [hln.out] at h; omega), hcr4⟩
      case measure => simp [intOf]; omega
 ·have hrf : rgtS (-1) xs = false := by simpa using hr
  rw [hrf] at h1
  rw [if_neg hr]
  have H1 := hid h1; clear h1
  clear hr hrf
  go_enter Tryz.func81, Tryz.ntmps81
  go_wp2_with fail
  refine H1.out.mono ?_
  rintro e w' ⟨rfl, q, rfl⟩
  go_wp2_with fail
  go_ret
  exact ⟨GivesInts.nil _ _, (Chg.refl _ _).drewN _⟩
def orGo (a b : List Int) : List Int := b.foldl (fun o y => putGo y o false) a
def orR (a b : List Int) : List Int := if rgtS (-1) a && rgtS (-1) b then orGo a b else []
theorem orGo_snoc (a b : List Int) (y : Int) : orGo a (b ++ [y]) = putGo y (orGo a b) false := by simp [orGo]
theorem putGo_len1 (x : Int) (ys : List Int) : (putGo x ys false).length ≤ ys.length + 1 := by have := putGo_len x ys false; simpa using this
def ReadInts (F : Nat → Prop) (w : World) (e : Ending) (xs : List Int) : Prop := ∃ A n c, e = .returned (.slice A n c) ∧ IntsAt F w A n c xs
theorem GivesInts.read {b : Nat} {w : World} {e : Ending} {xs : List Int} (h : GivesInts b w e xs) : ReadInts (fun k => b ≤ k ∧ k < w.heap.size) w e xs := by
 obtain ⟨A, c, he, hown⟩ := h
 exact ⟨A, _, c, he, (ElsAt.of_own (d := (0 : Int)) hown).mono (fun k hk h => ⟨h.2, hk⟩)⟩
def ROInv (w : World) (F : Nat → Prop) (xs ys : List Int) (n m : Nat) (v i : Value) (wr : World) : Prop :=
 ∃ (k : Nat) (X : Option Addr) (p cx : Nat), k ≤ m ∧ p ≤ n + k ∧ i = .int .i64 k ∧ v = .slice X p cx ∧ IntsAt (fun j => F j ∨ w.heap.size ≤ j) wr X p cx (orGo xs (ys.take k)) ∧ Chg Nothing w wr
theorem refOr15 (F G : Nat → Prop) (A B : Option Addr) (n c m d : Nat) (xs ys : List Int) (w : World) (h : IntsAt F w A n c xs) (h' : IntsAt G w B m d ys) (hF : ∀ k, F k → k < w.heap.size) (hb : (n + m + 1) * 8 ≤ 140737488355328) :
  Calls Tryz.prog 84 #[.slice A n c, .slice B m d] w fun e w' => ReadInts (fun j => F j ∨ w.heap.size ≤ j) w' e (orR xs ys) ∧ Chg Nothing w w' := by
 have hln := hid h'.2.2.2.1
 have hn := h'.2.1
 have hc := h'.2.2.1
 have H := hid h; clear h
 have H' := hid h'; clear h'
 have hFF := hid hF; clear hF
 unfold orR
 by_cases hr : rgtS (-1) xs = true
 ·have h1 := refRight15 F A n c xs w H.out
  rw [hr] at h1
  have H1 := hid h1; clear h1
  by_cases hr' : rgtS (-1) ys = true
  ·rw [hr, hr']
   simp only [Bool.and_self, if_true]
   have h2 := fun q => refRight15 G B m d ys (w.drewN q) (H'.out.chg ((Chg.refl Nothing w).drewN q) (fun _ _ _ h => h))
   rw [hr'] at h2
   have H2 := hid h2; clear h2
   clear hr hr'
   go_enter Tryz.func84, Tryz.ntmps84
   go_wp2_with fail
   refine H1.out.mono ?_
   rintro e w' ⟨rfl, q, rfl⟩
   go_wp2_with fail
   refine (H2.out q).mono ?_
   rintro e w' ⟨rfl, q2, rfl⟩
   go_wp2_with fail
   go_loopw [5, 6] (fun v i wr => ROInv w F xs ys n m v i wr) (fun _ i _ => m - (intOf i).toNat)
   case atStart => exact ⟨0, A, n, c, Nat.zero_le _, Nat.le_refl _, rfl, rfl, (H.out.mono (fun _ _ h => .inl h)).chg ((Chg.refl Nothing w).drewN _) (fun _ _ _ h => h), (Chg.refl _ _).drewN _⟩
   case round =>
    obtain ⟨k, X, p, cx, hk, hpk, rfl, rfl, hI, hcr⟩ := hrel
    have hwr := hcr.size
    by_cases hlt : k < m
    ·obtain ⟨g, o, rfl, _, hgs, hcell⟩ := (H'.out.chg hcr (fun _ _ _ h => h)).at_ hlt
     have htk := take_succ' (d := (0 : Int)) (xs := ys) (k := k) (by rw [hln.out]; exact hlt)
     have hos := orGo_snoc xs (ys.take k) (ys.getD k 0)
     rw [← htk] at hos
     have HOS := hid hos; clear hos htk
     generalize hy : ys.getD k 0 = y at *
     clear hy
     have hp9 := hI.2.1
     have hp8 := hI.2.2.1
     have HI := hid hI; clear hI
     go_wp2_with fail
     refine (put_any (fun j => (F j ∨ w.heap.size ≤ j) ∧ j < wr.heap.size) X p cx (orGo xs (ys.take k)) y wr (HI.out.mono (fun j hj h => ⟨h, hj⟩)) (fun j hj => hj.2) (by omega)).mono ?_
     rintro e w3 ⟨hg, hc3⟩
     have hlen := putGo_len1 y (orGo xs (ys.take k))
     rw [HI.out.2.2.2.1] at hlen
     obtain ⟨X3, p3, cx3, rfl, hI3⟩ := hg.read
     have hp3 : p3 ≤ n + (k + 1) := by rw [← hI3.2.2.2.1]; omega
     have hcr3 := hcr.trans hc3
     clear hc3 hlen hg
     go_wp2
     go_roundw
     case rel => exact ⟨k + 1, X3, p3, cx3, by omega, by omega, by go_num, rfl, by rw [HOS.out]; exact hI3.mono (fun j _ h => .inr (by have := h.1; omega)), hcr3⟩
     case measure => simp [intOf]; omega
    ·have htk : ys.take k = ys := List.take_of_length_le (by rw [hln.out]; omega)
     rw [htk] at hI
     clear htk
     go_wp2
     go_ret
     exact ⟨⟨X, p, cx, rfl, hI⟩, hcr⟩
  ·have hrf : rgtS (-1) ys = false := by simpa using hr'
   rw [hr, hrf]
   have h2 := fun q => refRight15 G B m d ys (w.drewN q) (H'.out.chg ((Chg.refl Nothing w).drewN q) (fun _ _ _ h => h))
   rw [hrf] at h2
   have H2 := hid h2; clear h2
   clear hr hr' hrf
   go_enter Tryz.func84, Tryz.ntmps84
   go_wp2_with fail
   refine H1.out.mono ?_
   rintro e w' ⟨rfl, q, rfl⟩
   go_wp2_with fail
   refine (H2.out q).mono ?_
   rintro e w' ⟨rfl, q2, rfl⟩
   go_wp2_with fail
   go_ret
   exact ⟨⟨none, 0, 0, rfl, ElsAt.nil _ _⟩, (Chg.refl _ _).drewN _⟩
 ·have hrf : rgtS (-1) xs = false := by simpa using hr
  rw [hrf]
  have h1 := refRight15 F A n c xs w H.out
  rw [hrf] at h1
  have H1 := hid h1; clear h1
  clear hr hrf
  go_enter Tryz.func84, Tryz.ntmps84
  go_wp2_with fail
  refine H1.out.mono ?_
  rintro e w' ⟨rfl, q, rfl⟩
  go_wp2_with fail
  go_ret
  exact ⟨⟨none, 0, 0, rfl, ElsAt.nil _ _⟩, (Chg.refl _ _).drewN _⟩
theorem right_iff {a : Int} {xs : List Int} : rgtS a xs = true ↔ (∀ z ∈ xs, a < z) ∧ xs.Pairwise (· < ·) := by
 constructor
 ·intro h
  refine ⟨rightB_lt h, ?_⟩
  induction xs generalizing a with
  | nil => exact List.Pairwise.nil
  | cons z zs ih =>
   simp only [rgtS] at h
   split at h
   ·cases h
   ·exact List.pairwise_cons.2 ⟨fun u hu => rightB_lt h u hu, ih h⟩
 ·induction xs generalizing a with
  | nil => intro _; rfl
  | cons z zs ih =>
   rintro ⟨h1, h2⟩
   have hp := List.pairwise_cons.1 h2
   simp only [rgtS]
   rw [if_neg (by have := h1 z (by simp); omega)]
   exact ih ⟨hp.1, hp.2⟩
theorem rising_ext {xs ys : List Int} (h1 : xs.Pairwise (· < ·)) (h2 : ys.Pairwise (· < ·)) (h : ∀ z, z ∈ xs ↔ z ∈ ys) : xs = ys := by
 induction xs generalizing ys with
 | nil =>
  cases ys with
  | nil => rfl
  | cons y ys => have := (h y).2 (by simp); simp at this
 | cons x xs ih =>
  cases ys with
  | nil => have := (h x).1 (by simp); simp at this
  | cons y ys =>
   have p1 := List.pairwise_cons.1 h1
   have p2 := List.pairwise_cons.1 h2
   have hxy : x = y := by
    have a := (h x).1 (by simp)
    have b := (h y).2 (by simp)
    simp only [List.mem_cons] at a b
    rcases a with rfl | a
    ·rfl
    ·rcases b with rfl | b
     ·rfl
     ·have := p2.1 x a; have := p1.1 y b; omega
   subst hxy
   congr 1
   refine ih p1.2 p2.2 fun z => ?_
   have hz := h z
   simp only [List.mem_cons] at hz
   constructor
   ·intro hm
    rcases hz.1 (.inr hm) with rfl | h
    ·have := p1.1 z hm; omega
    ·exact h
   ·intro hm
    rcases hz.2 (.inr hm) with rfl | h
    ·have := p2.1 z hm; omega
    ·exact h
theorem mem_merge {xs ys : List Int} {z : Int} : z ∈ mergeL xs ys ↔ z ∈ xs ∨ z ∈ ys := by
 fun_induction mergeL xs ys <;> simp_all <;> (try grind)
theorem merge_rising {xs ys : List Int} (h1 : xs.Pairwise (· < ·)) (h2 : ys.Pairwise (· < ·)) : (mergeL xs ys).Pairwise (· < ·) := by
 fun_induction mergeL xs ys with
 | case1 ys => exact h2
 | case2 x xs => exact h1
 | case3 x xs y ys hxy ih =>
  have p1 := List.pairwise_cons.1 h1
  have p2 := List.pairwise_cons.1 h2
  refine List.pairwise_cons.2 ⟨fun u hu => ?_, ih p1.2 h2⟩
  rcases mem_merge.1 hu with hu | hu
  ·exact p1.1 u hu
  ·rcases List.mem_cons.1 hu with rfl | hu
   ·exact hxy
   ·have := p2.1 u hu; omega
 | case4 x xs y ys hxy hyx ih =>
  have p1 := List.pairwise_cons.1 h1
  have p2 := List.pairwise_cons.1 h2
  refine List.pairwise_cons.2 ⟨fun u hu => ?_, ih h1 p2.2⟩
  rcases mem_merge.1 hu with hu | hu
  ·rcases List.mem_cons.1 hu with rfl | hu
   ·exact hyx
   ·have := p1.1 u hu; omega
  ·exact p2.1 u hu
 | case5 x xs y ys hxy hyx ih =>
  have p1 := List.pairwise_cons.1 h1
  have p2 := List.pairwise_cons.1 h2
  refine List.pairwise_cons.2 ⟨fun u hu => ?_, ih p1.2 p2.2⟩
  rcases mem_merge.1 hu with hu | hu
  ·exact p1.1 u hu
  ·have := p2.1 u hu; omega
theorem putGo_done {x : Int} {ys : List Int} (h : ∀ z ∈ ys, x < z) : putGo x ys true = ys := by
 induction ys with
 | nil => simp [putGo]
 | cons y ys ih =>
  have hy := h y (by simp)
  simp only [putGo]
  rw [if_neg (by simp), if_pos (by omega), Bool.true_or, ih (fun z hz => h z (by simp [hz]))]
  rfl
theorem putGo_merge {x : Int} {ys : List Int} (h : ys.Pairwise (· < ·)) : putGo x ys false = mergeL [x] ys := by
 induction ys with
 | nil => simp [putGo, mergeL_nil]
 | cons y ys ih =>
  have p := List.pairwise_cons.1 h
  simp only [putGo]
  rcases Int.lt_trichotomy x y with hxy | hxy | hxy
  ·rw [if_pos ⟨by omega, trivial⟩, if_pos (by omega), mergeL_lt _ _ hxy, mergeL_nil', show (false || decide (x ≤ y)) = true from by simp; omega, putGo_done (fun z hz => by have := p.1 z hz; omega)]
   rfl
  ·subst hxy
   rw [if_pos ⟨by omega, trivial⟩, if_neg (by simp), mergeL_eq, mergeL_nil', show (false || decide (x ≤ x)) = true from by simp, putGo_done (fun z hz => p.1 z hz)]
   rfl
  ·rw [if_neg (by omega), if_pos (by omega), mergeL_gt _ _ hxy, show (false || decide (x ≤ y)) = false from by simp; omega, ih p.2]
   rfl
theorem orGo_rising {xs ys : List Int} (h1 : xs.Pairwise (· < ·)) : (orGo xs ys).Pairwise (· < ·) ∧ ∀ z, z ∈ orGo xs ys ↔ z ∈ xs ∨ z ∈ ys := by
 induction ys generalizing xs with
 | nil => exact ⟨h1, fun z => by simp [orGo]⟩
 | cons y ys ih =>
  have hm := putGo_merge (x := y) h1
  have hr : (putGo y xs false).Pairwise (· < ·) := by rw [hm]; exact merge_rising (List.pairwise_singleton _ _) h1
  obtain ⟨a, b⟩ := ih hr
  refine ⟨a, fun z => ?_⟩
  show z ∈ orGo (putGo y xs false) ys ↔ _
  rw [b z, hm, mem_merge]
  simp only [List.mem_cons, List.not_mem_nil, or_false]
  grind
theorem orR_eq (a b : List Int) : orR a b = orL a b := by
 unfold orR orL
 by_cases ha : rgtS (-1) a = true
 ·by_cases hb : rgtS (-1) b = true
  ·rw [ha, hb]
   simp only [Bool.and_self, if_true]
   have pa := (right_iff.1 ha).2
   have pb := (right_iff.1 hb).2
   obtain ⟨h1, h2⟩ := orGo_rising (ys := b) pa
   exact rising_ext h1 (merge_rising pa pb) (fun z => by rw [h2, mem_merge])
  ·simp [hb]
 ·simp [ha]
theorem below_rising (k : Nat) : (below_ k).Pairwise (· < ·) := by
 induction k with
 | zero => exact List.Pairwise.nil
 | succ k ih =>
  rw [below_succ, List.pairwise_append]
  refine ⟨ih, List.pairwise_singleton _ _, fun a ha b hb => ?_⟩
  simp at hb; subst hb
  unfold below_ at ha
  simp at ha
  obtain ⟨j, hj, rfl⟩ := ha; omega
theorem mem_below {k : Nat} {z : Int} : z ∈ below_ k ↔ 0 ≤ z ∧ z < k := by
 unfold below_
 simp only [List.mem_map, List.mem_range]
 constructor
 ·rintro ⟨j, hj, rfl⟩; omega
 ·rintro ⟨h1, h2⟩; exact ⟨z.toNat, by omega, by omega⟩
theorem right_kept {p : Int → Bool} {xs : List Int} : rgtS (-1) (keptL p xs) = true := by
 unfold keptL
 split
 ·rename_i h
  obtain ⟨h1, h2⟩ := right_iff.1 h
  exact right_iff.2 ⟨fun z hz => h1 z ((List.mem_filter.1 hz).1), h2.filter _⟩
 ·rfl
theorem right_and (a b : List Int) : rgtS (-1) (andL a b) = true := by
 unfold andL; split
 ·exact right_kept
 ·rfl
theorem right_below (a : List Int) (n : Int) : rgtS (-1) (belowL a n) = true := right_kept
theorem right_not (a : List Int) (n : Int) : rgtS (-1) (notL a n) = true := by
 unfold notL; split
 ·refine right_iff.2 ⟨fun z hz => ?_, (below_rising _).filter _⟩
  have := (mem_below.1 ((List.mem_filter.1 hz).1)).1; omega
 ·rfl
theorem right_or (a b : List Int) : rgtS (-1) (orL a b) = true := by
 unfold orL; split
 ·rename_i h
  simp only [Bool.and_eq_true] at h
  obtain ⟨a1, a2⟩ := right_iff.1 h.1
  obtain ⟨b1, b2⟩ := right_iff.1 h.2
  refine right_iff.2 ⟨fun z hz => ?_, merge_rising a2 b2⟩
  rcases mem_merge.1 hz with h | h
  ·exact a1 z h
  ·exact b1 z h
 ·rfl
theorem right_shift (a : List Int) (n : Int) : rgtS (-1) (shiftL a n) = true := by
 unfold shiftL; split
 ·rfl
 ·obtain ⟨h1, h2⟩ := right_iff.1 (right_kept (p := fun x => decide (n ≤ x)) (xs := a))
  refine right_iff.2 ⟨fun z hz => ?_, ?_⟩
  ·obtain ⟨y, hy, rfl⟩ := List.mem_map.1 hz
   have := (keptL_nonneg y hy).2.2
   simp at this; omega
  ·rw [List.pairwise_map]; exact h2.imp (fun h => by omega)
theorem mem_and {a b : List Int} (ha : rgtS (-1) a = true) (hb : rgtS (-1) b = true) {z : Int} : z ∈ andL a b ↔ z ∈ a ∧ z ∈ b := by
 unfold andL keptL; rw [if_pos hb, if_pos ha, List.mem_filter]; simp
theorem mem_or {a b : List Int} (ha : rgtS (-1) a = true) (hb : rgtS (-1) b = true) {z : Int} : z ∈ orL a b ↔ z ∈ a ∨ z ∈ b := by
 unfold orL; rw [ha, hb]; simp only [Bool.and_self, if_true]; exact mem_merge
theorem mem_not {a : List Int} {n : Int} (ha : rgtS (-1) a = true) {z : Int} : z ∈ notL a n ↔ (0 ≤ z ∧ z < clip n) ∧ z ∉ a := by
 have : notL a n = (below_ (clip n)).filter (fun x => !decide (x ∈ a)) := by unfold notL; rw [if_pos ha]; rfl
 rw [this, List.mem_filter, mem_below]; simp
theorem mem_belowL {a : List Int} {n : Int} (ha : rgtS (-1) a = true) {z : Int} : z ∈ belowL a n ↔ z ∈ a ∧ z < n := by
 unfold belowL keptL; rw [if_pos ha, List.mem_filter]; simp
theorem not_or {a b : List Int} (ha : rgtS (-1) a = true) (hb : rgtS (-1) b = true) (n : Int) : notL (orL a b) n = andL (notL a n) (notL b n) :=
 rising_ext (right_iff.1 (right_not _ _)).2 (right_iff.1 (right_and _ _)).2 fun z => by
  rw [mem_not (right_or a b), mem_and (right_not a n) (right_not b n), mem_not ha, mem_not hb, mem_or ha hb]; grind
theorem not_not {a : List Int} (ha : rgtS (-1) a = true) {n : Int} (h0 : 0 ≤ n) (h1 : n ≤ 1000) : notL (notL a n) n = belowL a n :=
 rising_ext (right_iff.1 (right_not _ _)).2 (right_iff.1 (right_below _ _)).2 fun z => by
  have hc : (clip n : Int) = n := by unfold clip; omega
  have hz := (right_iff.1 ha).1 z
  rw [mem_not (right_not a n), mem_not ha, mem_belowL ha, hc]
  constructor
  ·rintro ⟨⟨h1, h2⟩, h3⟩
   refine ⟨?_, h2⟩
   apply Classical.byContradiction
   intro h4; exact h3 ⟨⟨h1, h2⟩, h4⟩
  ·rintro ⟨h1, h2⟩
   have := hz h1
   exact ⟨⟨by omega, h2⟩, fun h => h.2 h1⟩
end Go.Proofs.YtoelilejohfglaaGreat
