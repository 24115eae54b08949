/- Layer 15, set: what its functions compute. -/
import Derived.Test.YtemfmdhgalmgnaaRows
import Derived.Test.YtemfmdhgalmgnaaLib
import Derived.Deep.QuietTactic
import Derived.BigQuiet
import Derived.BigRegion
import Derived.Shelf.Abstract
import Derived.Deep.LoopGhost
namespace Go.Proofs.Ytemfmdhgalmgnaa
open Go.RowKit
set_option linter.unusedVariables false

theorem infoI : (Try.prog.info? 3).map (fun i => (i.zero, i.size, i.bytes)) = some (some (.int .i64 0), 1, 8) := by kernel_rfl

def rightB : Int → List Int → Bool
  | _, [] => true
  | last, x :: xs => if x ≤ last then false else rightB x xs

/-- A slice of the call's own is told. -/
def GivesInts (base : Nat) (w' : World) (e : Ending) (xs : List Int) : Prop := ∃ A c, e = .returned (.slice A xs.length c) ∧ w'.ownsRow base 3 1 (.slice A xs.length c) xs.length (xs.map (Value.int .i64))

set_option maxHeartbeats 400000 in
theorem setRight_any (F : Nat → Prop) (A : Option Addr) (n c : Nat) (xs : List Int) (w : World) (h : IntsAt F w A n c xs) :
    Calls Try.prog 17 #[.slice A n c] w fun e w' => e = .returned (.bool (rightB (-1) xs)) ∧ w = w' := by
  have hln := hid h.2.2.2.1
  have hn := h.2.1
  have hc := h.2.2.1
  have H := hid h
  clear h
  go_enter Try.func17, Try.ntmps17
  go_wp2_with fail
  go_loop [3, 8] (fun last i => ∃ (k : Nat) (x : Int), k ≤ n ∧ i = .int .i64 k ∧ last = .int .i64 x ∧ Hid (rightB (-1) xs = rightB x (xs.drop k))) (fun _ i => n - (intOf i).toNat)
  case atStart => exact ⟨0, -1, Nat.zero_le _, rfl, rfl, hid rfl⟩
  case round =>
    obtain ⟨k, x, hk, rfl, rfl, hr⟩ := hrel
    by_cases hlt : k < n
    · obtain ⟨g, o, rfl, _, _, hcell⟩ := H.out.at_ hlt
      have hd := hid (drop_cons (d := (0 : Int)) (xs := xs) (k := k) (by rw [hln.out]; exact hlt))
      generalize hy : xs.getD k 0 = y at *
      clear hy
      by_cases hle : y ≤ x
      · go_wp2
        go_ret
        exact ⟨by rw [hr.out, hd.out]; simp [rightB, hle], rfl⟩
      · go_wp2
        go_round
        case rel => exact ⟨k + 1, y, by omega, by go_num, rfl, hid (by rw [hr.out, hd.out]; simp [rightB, hle])⟩
        case measure => simp [intOf]; omega
    · go_wp2
      go_ret
      have : xs.drop k = [] := List.drop_eq_nil_of_le (by rw [hln.out]; omega)
      exact ⟨by rw [hr.out, this]; rfl, rfl⟩

/-! ### along -/
structure AlongSt (F : Nat → Prop) (ba bl : Nat) (B : Option Addr) (n c : Nat) (xs : List Int) (y : Int) (w : World) : Prop where
  ne : ba ≠ bl
  nf : ¬ F ba
  row : IntsAt F w B n c xs
  bx : Blk w bl #[.slice B n c] 22
  at_ : ∃ k, k ≤ n ∧ Blk w ba #[.int .i64 (k : Nat)] 3 ∧ ∀ j, j < k → xs.getD j 0 < y
theorem AlongSt.chg {F S : Nat → Prop} {ba bl : Nat} {B : Option Addr} {n c : Nat} {xs : List Int} {y : Int} {w w' : World} (h : AlongSt F ba bl B n c xs y w) (hc : Chg S w w') (h1 : ¬ S ba) (h2 : ¬ S bl) (h3 : ∀ k, k < w.heap.size → F k → ¬ S k) : AlongSt F ba bl B n c xs y w' := by
  obtain ⟨k, hk, hB, hj⟩ := h.at_
  exact ⟨h.ne, h.nf, h.row.chg hc h3, h.bx.chg hc h2, k, hk, hB.chg hc h1, hj⟩
theorem AlongSt.mono {F : Nat → Prop} {ba bl : Nat} {B : Option Addr} {n c : Nat} {xs : List Int} {y z : Int} {w : World} (h : AlongSt F ba bl B n c xs y w) (hyz : y ≤ z) : AlongSt F ba bl B n c xs z w := by
  obtain ⟨k, hk, hB, hj⟩ := h.at_
  exact ⟨h.ne, h.nf, h.row, h.bx, k, hk, hB, fun j hj' => by have := hj j hj'; omega⟩

set_option maxHeartbeats 400000 in
theorem along_any (F : Nat → Prop) (B : Option Addr) (n c : Nat) (xs : List Int) (w : World) (h : IntsAt F w B n c xs) (hF : ∀ k, F k → k < w.heap.size) :
    Calls Try.prog 42 #[.slice B n c] w fun e w' => ∃ ba bl, e = .returned (.func (.func 62) #[] #[.pointer (some ⟨ba, 0, none⟩), .pointer (some ⟨bl, 0, none⟩)]) ∧ w.heap.size ≤ ba ∧ w.heap.size ≤ bl ∧ ba < w'.heap.size ∧ bl < w'.heap.size ∧ (∀ y, AlongSt F ba bl B n c xs y w') ∧ Chg Nothing w w' := by
  have H := hid h
  clear h
  go_enter Try.func42, Try.ntmps42
  go_wp2_with fail
  go_ret
  have hC := ((Chg.refl Nothing w).alloc (.cells #[.slice B n c] 22)).alloc (.cells #[.int .i64 0] 3)
  refine ⟨w.heap.size + 1, w.heap.size, by simp, by omega, by omega, by simp [World.size_alloc], by simp [World.size_alloc]; omega, fun y => ⟨by omega, fun h => by have := hF _ h; omega, H.out.chg hC (fun _ _ _ h => h), (Blk.new w _ _).alloc _, 0, Nat.zero_le _, ?_, fun j hj => by omega⟩, hC⟩
  have := Blk.new (w.alloc (.cells #[.slice B n c] 22)) #[.int .i64 0] 3
  simpa [World.size_alloc] using this

/-- In a rising row: is a number in it, when all ahead of a place are below it. -/
theorem mem_at {xs : List Int} (hr : rightB (-1) xs = true) {k : Nat} {x : Int} (hlo : ∀ j, j < k → xs.getD j 0 < x) (hhi : k < xs.length → x ≤ xs.getD k 0) :
    decide (x ∈ xs) = (decide (k < xs.length) && decide (xs.getD k 0 = x)) := by
  have hmono : ∀ (l : List Int) (a : Int), rightB a l = true → (∀ z ∈ l, a < z) ∧ l.Pairwise (· < ·) := by
    intro l
    induction l with
    | nil => intro a _; simp
    | cons z zs ih =>
      intro a h
      simp only [rightB] at h
      split at h
      · cases h
      · rename_i hz
        obtain ⟨h1, h2⟩ := ih z h
        refine ⟨fun u hu => ?_, List.pairwise_cons.2 ⟨h1, h2⟩⟩
        rcases List.mem_cons.1 hu with rfl | hu
        · omega
        · have := h1 u hu; omega
  have hp := (hmono xs (-1) hr).2
  by_cases hk : k < xs.length
  · rw [Bool.eq_iff_iff]
    simp only [decide_eq_true_eq, Bool.and_eq_true]
    constructor
    · intro hx
      refine ⟨hk, ?_⟩
      obtain ⟨j, hj, rfl⟩ := List.getElem_of_mem hx
      rcases Nat.lt_trichotomy j k with h | h | h
      · have := hlo j h
        simp [hj] at this
      · subst h; simp [hj]
      · have h1 := hhi hk
        have h2 := List.pairwise_iff_getElem.1 hp k j hk hj h
        simp [hk] at h1
        omega
    · rintro ⟨_, rfl⟩
      simp [hk]
  · rw [Bool.eq_iff_iff]
    simp only [decide_eq_true_eq, Bool.and_eq_true]
    constructor
    · intro hx
      obtain ⟨j, hj, rfl⟩ := List.getElem_of_mem hx
      have := hlo j (by omega)
      simp [hj] at this
    · rintro ⟨h, _⟩; contradiction

structure AlongAt (F : Nat → Prop) (ba bl : Nat) (B : Option Addr) (n c : Nat) (xs : List Int) (k : Nat) (w : World) : Prop where
  nf : ¬ F ba
  row : IntsAt F w B n c xs
  bx : Blk w bl #[.slice B n c] 22
  at_ : Blk w ba #[.int .i64 (k : Nat)] 3

set_option maxHeartbeats 1000000 in
theorem along1_any (F : Nat → Prop) (ba bl : Nat) (B : Option Addr) (n c : Nat) (xs : List Int) (y x : Int) (w : World) (h : AlongSt F ba bl B n c xs y w) (hr : rightB (-1) xs = true) (hyx : y ≤ x) :
    Calls Try.prog 62 #[.int .i64 x, .pointer (some ⟨ba, 0, none⟩), .pointer (some ⟨bl, 0, none⟩)] w fun e w' => e = .returned (.bool (decide (x ∈ xs))) ∧ AlongSt F ba bl B n c xs x w' ∧ Chg (One ba) w w' := by
  obtain ⟨hne, hnf, hrow, hbx, k0, hk0, hB0, hj0⟩ := h
  have hn := hrow.2.1
  have hc := hrow.2.2.1
  have hln := hid hrow.2.2.2.1
  have HR := hid hr; clear hr
  have hA : AlongAt F ba bl B n c xs k0 w := ⟨hnf, hrow, hbx, hB0⟩
  clear hrow hbx hB0
  have HJ0 := hid hj0; clear hj0
  go_enter Try.func62, Try.ntmps62
  go_wp2_with fail
  go_loopg [] n (fun gg wr => ∃ k, k ≤ n ∧ n - k ≤ gg ∧ AlongAt F ba bl B n c xs k wr ∧ Hid (∀ j, j < k → xs.getD j 0 < x) ∧ Chg (One ba) w wr)
  case atStart => exact ⟨k0, hk0, by omega, hA, hid (fun j hj => by have := HJ0.out j hj; omega), Chg.refl _ _⟩
  case round =>
    obtain ⟨k, hk, hgg, hA', hj, hcr⟩ := hrel
    have c1 := hA'.at_.cell 0 (v := .int .i64 (k : Nat)) rfl
    have f1 := hA'.at_.free 0
    have c2 := hA'.bx.cell 0 (v := .slice B n c) rfl
    by_cases hlt : k < n
    · obtain ⟨g, o, rfl, hFg, _, hcell⟩ := hA'.row.at_ hlt
      have hgba : g ≠ ba := fun e => hA'.nf (e ▸ hFg)
      have HA' := hid hA'; clear hA'
      generalize hv : xs.getD k 0 = v at *
      have HV := hid hv; clear hv
      by_cases hlx : v < x
      · go_wp2
        go_roundg (n - (k + 1))
        rotate_left
        · omega
        · have hS := (Chg.refl (One ba) wr).setOne 0 (.int .i64 ((k : Int) + 1))
          refine ⟨k + 1, by omega, by omega, ⟨hnf, HA'.out.row.chg hS (fun k _ h e => hnf (by unfold One at e; rw [← e]; exact h)), HA'.out.bx.chg hS (fun e => hne e.symm), ?_⟩, hid (fun j hj' => ?_), hcr.trans hS⟩
          · exact HA'.out.at_.set 0 (.int .i64 ((k : Int) + 1))
          · rcases Nat.lt_succ_iff_lt_or_eq.1 hj' with h | rfl
            · exact hj.out j h
            · rw [HV.out]; exact hlx
      · have hmem := mem_at HR.out (k := k) (x := x) hj.out (fun _ => by rw [HV.out]; omega)
        rw [hln.out, HV.out] at hmem
        have hfin : AlongSt F ba bl (some ⟨g, o, none⟩) n c xs x wr := ⟨hne, hnf, HA'.out.row, HA'.out.bx, k, hk, HA'.out.at_, hj.out⟩
        have HM := hid hmem; clear hmem
        by_cases hvx : v = x
        · subst hvx
          go_wp2
          go_ret
          exact ⟨by rw [HM.out]; simp [hlt], hfin, hcr⟩
        · have hvx' : x < v := by omega
          go_wp2
          go_ret
          exact ⟨by rw [HM.out]; simp [hlt, hvx], hfin, hcr⟩
    · have hmem := mem_at HR.out (k := k) (x := x) hj.out (fun h => by rw [hln.out] at h; omega)
      rw [hln.out] at hmem
      have HM := hid hmem; clear hmem
      have hfin : AlongSt F ba bl B n c xs x wr := ⟨hne, hnf, hA'.row, hA'.bx, k, hk, hA'.at_, hj.out⟩
      clear hA'
      go_wp2
      go_ret
      exact ⟨by rw [HM.out]; simp [hlt], hfin, hcr⟩

/-! ### kept -/
def keptL (p : Int → Bool) (xs : List Int) : List Int := if rightB (-1) xs then xs.filter p else []

/-- A rule that numbers are asked by, rising: what it says, what it keeps for itself (St), which old blocks it writes (M). -/
structure Rule (g : Nat) (lb : Array Value) (p : Int → Bool) (St : Int → World → Prop) (B : Nat) (M : Nat → Prop) : Prop where
  enters : ∀ args w, (callFunc g args).run Try.prog w = .ok (.enter g args) w
  ask : ∀ y x W, y ≤ x → St y W → Calls Try.prog g (#[.int .i64 x] ++ lb) W fun e W' => e = .returned (.bool (p x)) ∧ St x W' ∧ Chg M W W'
  stays : ∀ y W W', St y W → Chg (fun k => B ≤ k) W W' → St y W'
  below : ∀ k, M k → k < B

theorem rightB_lt {last : Int} {xs : List Int} (h : rightB last xs = true) : ∀ z ∈ xs, last < z := by
  induction xs generalizing last with
  | nil => intro z hz; simp at hz
  | cons x xs ih =>
    simp only [rightB] at h
    split at h
    · cases h
    · intro z hz
      rcases List.mem_cons.1 hz with rfl | hz
      · omega
      · have := ih h z hz; omega

theorem rightB_mono {a b : Int} {xs : List Int} (hab : a ≤ b) (h : rightB b xs = true) : rightB a xs = true := by
  cases xs with
  | nil => rfl
  | cons x xs =>
    simp only [rightB] at h ⊢
    split at h
    · cases h
    · rw [if_neg (by omega)]; exact h
theorem take_succ' {α : Type} {d : α} {xs : List α} {k : Nat} (h : k < xs.length) : xs.take (k + 1) = xs.take k ++ [xs.getD k d] := by
  rw [List.take_succ_eq_append_getElem h]; simp [h]

set_option maxHeartbeats 2000000 in
theorem kept_any (F : Nat → Prop) (A : Option Addr) (n c : Nat) (xs : List Int) (g : Nat) (lb : Array Value) (p : Int → Bool) (St : Int → World → Prop) (M : Nat → Prop) (y : Int) (w : World)
    (h : IntsAt F w A n c xs) (hb : n * 8 ≤ 140737488351232) (hr : Rule g lb p St w.heap.size M) (hy : y ≤ -1) (hst : St y w) (hFM : ∀ k, F k → ¬ M k) (hFw : ∀ k, F k → k < w.heap.size) :
    Calls Try.prog 41 #[.slice A n c, .func (.func g) #[] lb] w fun e w' => GivesInts w.heap.size w' e (keptL p xs) ∧ Chg M w w' ∧ ∃ z, St z w' := by
  have H := hid h
  have hln := hid h.2.2.2.1
  have hn := h.2.1
  have hc := h.2.2.1
  clear h
  have eg := hr.enters
  have HR := hid hr; clear hr
  unfold keptL
  by_cases hright : rightB (-1) xs = true
  · rw [hright]
    simp only [if_true]
    have HRT := hid hright
    go_enter Try.func41, Try.ntmps41
    go_wp2_with (go_at_call 17; refine (setRight_any F A n c xs _ H.out).mono ?_; rintro e w' ⟨rfl, rfl⟩)
    go_loopw [5, 13] (fun v i wr => ∃ (k : Nat) (X : Option Addr) (cx : Nat) (m : Nat) (z : Int), k ≤ n ∧ m ≤ k ∧ i = .int .i64 k ∧ v = .slice X m cx ∧ Hid (((xs.take k).filter p).length = m) ∧ wr.ownsRow w.heap.size 3 1 (.slice X m cx) m (((xs.take k).filter p).map (Value.int .i64)) ∧ St z wr ∧ Hid (rightB z (xs.drop k) = true) ∧ Chg M w wr) (fun _ i _ => n - (intOf i).toNat)
    case atStart => exact ⟨0, none, 0, 0, y, Nat.zero_le _, Nat.le_refl _, rfl, rfl, hid rfl, World.ownsRow_nil _ _ _ _, hst, hid (rightB_mono hy hright), Chg.refl _ _⟩
    case round =>
      obtain ⟨k, X, cx, m, z, hk, hmk, rfl, rfl, hm, hown, hst', hrd, hcr⟩ := hrel
      by_cases hlt : k < n
      · have hrow := H.out.chg hcr (fun k _ h => hFM k h)
        obtain ⟨g', o, rfl, _, _, hcell⟩ := hrow.at_ hlt
        have hd := hid (drop_cons (d := (0 : Int)) (xs := xs) (k := k) (by rw [hln.out]; exact hlt))
        have htk := hid (take_succ' (d := (0 : Int)) (xs := xs) (k := k) (by rw [hln.out]; exact hlt))
        generalize hv : xs.getD k 0 = v at *
        clear hv hrow
        have hzv : z < v ∧ rightB v (xs.drop (k + 1)) = true := by
          have := hrd.out
          rw [hd.out] at this
          simp only [rightB] at this
          split at this
          · cases this
          · exact ⟨by omega, this⟩
        obtain ⟨hzv, hrv⟩ := hzv
        have HRV := hid hrv; clear hrv
        have hgs := hcr.size
        have hfilt : (xs.take (k + 1)).filter p = (xs.take k).filter p ++ (if p v = true then [v] else []) := by
          rw [htk.out, List.filter_append]; congr 1; simp [List.filter_cons]
        have HFI := hid hfilt; clear hfilt
        go_wp2_with fail
        go_at_fn g
        refine (HR.out.ask z v wr (by omega) hst').mono ?_
        rintro e w3 ⟨rfl, hst3, hc3⟩
        have hown3 := own_chg hown hc3 (fun k hk h => by have := own_of hown k hk; have := HR.out.below k h; omega)
        have hs3 := hc3.size
        have hcr3 := hcr.trans hc3
        clear hst' hcr hown hc3
        cases hp : p v with
        | true =>
          go_wp2_with (at_builtin; refine append_one rfl _ _ 22 rfl w.heap.size 3 (.int .i64 0) 8 Try.underlying22 infoI rfl X cx m _ rfl hown3 (.int .i64 v) rfl rfl ?h4 ?h5 ?h6 ?_)
          case h4 => omega
          case h5 => omega
          case h6 => omega
          intro X' cx' w4 hown4 hc4 hX
          have hst4 := HR.out.stays v w3 w4 hst3 (hc4.mono (fun k _ h => (own_of hown3 k h).1))
          have hcr4 := hcr3.then hc4 (fun k hk h => by have := own_of hown3 k h; omega)
          clear hown3 hc4 hst3 hcr3
          go_wp2
          go_roundw
          case rel => exact ⟨k + 1, X', cx', m + 1, v, by omega, by omega, by go_num, rfl, hid (by rw [HFI.out, if_pos hp, List.length_append, hm.out]; rfl), by rw [HFI.out, if_pos hp, List.map_append]; exact hown4, hst4, HRV, hcr4⟩
          case measure => simp [intOf]; omega
        | false =>
          go_wp2
          go_roundw
          case rel => exact ⟨k + 1, X, cx, m, v, by omega, by omega, by go_num, rfl, hid (by rw [HFI.out, if_neg (by simp [hp]), List.append_nil, hm.out]), by rw [HFI.out, if_neg (by simp [hp]), List.append_nil]; exact hown3, hst3, HRV, hcr3⟩
          case measure => simp [intOf]; omega
      · have htk : xs.take k = xs := List.take_of_length_le (by rw [hln.out]; omega)
        rw [htk] at hm hown
        clear htk
        go_wp2
        go_ret
        refine ⟨⟨X, cx, ?_, ?_⟩, hcr, z, hst'⟩
        · rw [hm.out]; rfl
        · rw [hm.out]; exact hown
  · have hrf : rightB (-1) xs = false := by simpa using hright
    clear hright
    rw [hrf]
    go_enter Try.func41, Try.ntmps41
    go_wp2_with (go_at_call 17; refine (setRight_any F A n c xs _ H.out).mono ?_; rintro e w' ⟨rfl, rfl⟩)
    go_ret
    exact ⟨⟨none, 0, rfl, World.ownsRow_nil _ _ _ _⟩, Chg.refl _ _, y, hst⟩
end Go.Proofs.Ytemfmdhgalmgnaa
