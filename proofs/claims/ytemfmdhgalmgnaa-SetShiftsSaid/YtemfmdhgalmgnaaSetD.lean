/- Layer 15: the reference's functions, and Places. -/
import Derived.Test.YtemfmdhgalmgnaaSetC
namespace Go.Proofs.Ytemfmdhgalmgnaa
open Go.RowKit
set_option linter.unusedVariables false
theorem drewN2 (w : World) (q n : Nat) : ∃ m, (w.drewN q).drewN n = w.drewN m := ⟨_, World.drewN_drewN ..⟩
set_option maxHeartbeats 1000000 in
theorem places_any (F G : Nat → Prop) (A B : Option Addr) (n c m d : Nat) (xs ys : List Int) (w : World) (h : IntsAt F w A n c xs) (h' : IntsAt G w B m d ys) :
    Calls Try.prog 21 #[.slice A n c, .slice B m d] w fun e w' => e = .returned (.bool (decide (xs = ys))) ∧ ∃ q, w' = w.drewN q := by
  have hl1 := h.2.2.2.1
  have hl2 := h'.2.2.2.1
  have hn := h.2.1
  have hc := h.2.2.1
  have hm := h'.2.1
  have hd := h'.2.2.1
  have H := hid h; clear h
  have H' := hid h'; clear h'
  by_cases hnm : n = m
  · subst hnm
    have HL1 := hid hl1
    have HL2 := hid hl2; clear hl1 hl2
    go_enter Try.func21, Try.ntmps21
    go_wp2_with fail
    go_loopw [5] (fun i wr => ∃ k q, k ≤ n ∧ i = .int .i64 (k : Nat) ∧ wr = w.drewN q ∧ Hid (xs.take k = ys.take k)) (fun i _ => n - (intOf i).toNat)
    case atStart => exact ⟨0, 0, Nat.zero_le _, rfl, rfl, hid rfl⟩
    case round =>
      obtain ⟨k, q, hk, rfl, rfl, htk⟩ := hrel
      by_cases hlt : k < n
      · obtain ⟨g, o, rfl, _, _, hc1⟩ := H.out.at_ hlt
        obtain ⟨g2, o2, rfl, _, _, hc2⟩ := H'.out.at_ hlt
        have t1 := hid (take_succ' (d := (0 : Int)) (xs := xs) (k := k) (by rw [HL1.out]; exact hlt))
        have t2 := hid (take_succ' (d := (0 : Int)) (xs := ys) (k := k) (by rw [HL2.out]; exact hlt))
        have u1 := hid (rfl : xs.getD k 0 = xs.getD k 0)
        generalize hx : xs.getD k 0 = x at hc1 t1
        generalize hy : ys.getD k 0 = y at hc2 t2
        have HX := hid hx; clear hx
        have HY := hid hy; clear hy
        by_cases hxy : x = y
        · subst hxy
          go_wp2
          go_quiet (fail)
          go_wp2
          go_roundw
          case rel => exact ⟨k + 1, _, by omega, by go_num, rfl, hid (by rw [t1.out, t2.out, htk.out])⟩
          case measure => simp [intOf]; omega
        · have hne : xs ≠ ys := fun e => hxy (by rw [← HX.out, ← HY.out, e])
          go_wp2
          go_quiet (fail)
          go_wp2
          go_ret
          exact ⟨by simp [hne], drewN2 _ _ _⟩
      · have h1 : xs = ys := by
          have := htk.out
          rw [List.take_of_length_le (by rw [HL1.out]; omega), List.take_of_length_le (by rw [HL2.out]; omega)] at this
          exact this
        go_wp2
        go_ret
        exact ⟨by simp [h1], q, rfl⟩
  · have hne : xs ≠ ys := fun e => hnm (by rw [← hl1, ← hl2, e])
    have hnm' : n < m ∨ m < n := by omega
    clear hl1 hl2 hnm
    rcases hnm' with hnm | hnm
    all_goals
      go_enter Try.func21, Try.ntmps21
      go_wp2_with fail
      go_ret
      exact ⟨by simp [hne], 0, rfl⟩

set_option maxHeartbeats 1000000 in
theorem refRight_any (F : Nat → Prop) (A : Option Addr) (n c : Nat) (xs : List Int) (w : World) (h : IntsAt F w A n c xs) :
    Calls Try.prog 18 #[.slice A n c] w fun e w' => e = .returned (.bool (rightB (-1) xs)) ∧ ∃ q, w' = w.drewN q := by
  have hln := hid h.2.2.2.1
  have hn := h.2.1
  have hc := h.2.2.1
  have H := hid h
  clear h
  go_enter Try.func18, Try.ntmps18
  go_wp2_with fail
  go_loopw [3] (fun i wr => ∃ (k q : Nat), k ≤ n ∧ i = .int .i64 k ∧ wr = w.drewN q ∧ Hid (rightB (-1) xs = rightB (if k = 0 then -1 else xs.getD (k - 1) 0) (xs.drop k)) ∧ Hid (k ≠ 0 → 0 ≤ xs.getD (k - 1) 0)) (fun i _ => n - (intOf i).toNat)
  case atStart => exact ⟨0, 0, Nat.zero_le _, rfl, rfl, hid rfl, hid (fun h => absurd rfl h)⟩
  case round =>
    obtain ⟨k, q, hk, rfl, rfl, hr, hp0⟩ := hrel
    by_cases hlt : k < n
    · have hd := hid (drop_cons (d := (0 : Int)) (xs := xs) (k := k) (by rw [hln.out]; exact hlt))
      have hr2 := hr.out
      rw [hd.out] at hr2
      cases k with
      | zero =>
        obtain ⟨g, o, rfl, _, _, hcell⟩ := H.out.at_ hlt
        simp only [Nat.add_zero] at hcell
        simp only [if_true, rightB] at hr2
        have HR2 := hid hr2; clear hr2
        generalize hy : xs.getD 0 0 = y at *
        have hyy := hid hy; clear hy
        by_cases hle : y < 0
        · have hd0 : decide (y < 0) = true := decide_eq_true (by omega)
          go_wp2_with fail
          go_quiet (fail)
          go_wp2
          go_ret
          exact ⟨by rw [HR2.out, if_pos (by omega)]; rfl, drewN2 _ _ _⟩
        · have hd0 : decide (y < 0) = false := decide_eq_false (by omega)
          go_wp2_with fail
          go_quiet (fail)
          go_wp2
          go_roundw
          case rel => exact ⟨1, _, by omega, by go_num, rfl, hid (by rw [HR2.out, if_neg (by omega)]; show rightB y _ = rightB (xs.getD 0 0) _; rw [hyy.out]), hid (fun _ => by show 0 ≤ xs.getD 0 0; rw [hyy.out]; omega)⟩
          case measure => simp [intOf]; omega
      | succ j =>
        obtain ⟨g, o, rfl, _, _, hcell⟩ := H.out.at_ hlt
        obtain ⟨g2, o2, e2, _, _, hcell2⟩ := H.out.at_ (show j < n by omega)
        injection e2 with e2
        injection e2 with e3 e4
        subst e3 e4
        simp only [Nat.add_sub_cancel, rightB, Nat.succ_ne_zero, if_false] at hr2
        have HR2 := hid hr2; clear hr2
        generalize hy : xs.getD (j + 1) 0 = y at *
        generalize hz : xs.getD j 0 = z at *
        have hyy := hid hy; clear hy
        have hzz := hid hz; clear hz
        have hz0 : 0 ≤ z := by have h9 : 0 ≤ xs.getD j 0 := hp0.out (by omega); rw [hzz.out] at h9; exact h9
        have hj0 : decide ((0 : Int) < (j : Int) + 1) = true := decide_eq_true (by omega)
        have hcase : (y < 0) ∨ (0 ≤ y ∧ y ≤ z) ∨ (0 ≤ y ∧ z < y) := by omega
        rcases hcase with hle | ⟨hle, hyz⟩ | ⟨hle, hyz⟩
        · have hd0 : decide (y < 0) = true := decide_eq_true (by omega)
          go_wp2_with fail
          go_quiet (fail)
          go_wp2
          go_ret
          exact ⟨by rw [HR2.out, if_pos (by omega)]; rfl, drewN2 _ _ _⟩
        · have hd0 : decide (y < 0) = false := decide_eq_false (by omega)
          have hd1 : decide (y ≤ z) = true := decide_eq_true (by omega)
          go_wp2_with fail
          go_quiet (fail)
          go_wp2
          go_ret
          exact ⟨by rw [HR2.out, if_pos (by omega)]; rfl, drewN2 _ _ _⟩
        · have hd0 : decide (y < 0) = false := decide_eq_false (by omega)
          have hd1 : decide (y ≤ z) = false := decide_eq_false (by omega)
          go_wp2_with fail
          go_quiet (fail)
          go_wp2
          go_roundw
          case rel => exact ⟨j + 1 + 1, _, by omega, by go_num, rfl, hid (by rw [HR2.out, if_neg (by omega)]; show rightB y _ = rightB (xs.getD (j + 1) 0) _; rw [hyy.out]), hid (fun _ => by show 0 ≤ xs.getD (j + 1) 0; rw [hyy.out]; omega)⟩
          case measure => simp [intOf]; omega
    · go_wp2
      go_ret
      have : xs.drop k = [] := List.drop_eq_nil_of_le (by rw [hln.out]; omega)
      exact ⟨by rw [hr.out, this]; rfl, q, rfl⟩

set_option maxHeartbeats 1000000 in
theorem refHas_any (F : Nat → Prop) (A : Option Addr) (n c : Nat) (xs : List Int) (x : Int) (w : World) (h : IntsAt F w A n c xs) :
    Calls Try.prog 30 #[.slice A n c, .int .i64 x] w fun e w' => e = .returned (.bool (decide (x ∈ xs))) ∧ w = w' := by
  have hln := hid h.2.2.2.1
  have hn := h.2.1
  have hc := h.2.2.1
  have H := hid h
  clear h
  go_enter Try.func30, Try.ntmps30
  go_wp2_with fail
  go_loop [5] (fun i => ∃ k : Nat, k ≤ n ∧ i = .int .i64 k ∧ Hid (x ∉ xs.take k)) (fun i => n - (intOf i).toNat)
  case atStart => exact ⟨0, Nat.zero_le _, rfl, hid (by simp)⟩
  case round =>
    obtain ⟨k, hk, rfl, hr⟩ := hrel
    by_cases hlt : k < n
    · obtain ⟨g, o, rfl, _, _, hcell⟩ := H.out.at_ hlt
      have htk := hid (take_succ' (d := (0 : Int)) (xs := xs) (k := k) (by rw [hln.out]; exact hlt))
      have hmem := hid (show xs.getD k 0 ∈ xs from by rw [show xs.getD k 0 = xs[k]'(by rw [hln.out]; exact hlt) from by simp [hln.out, hlt]]; exact List.getElem_mem _)
      generalize hy : xs.getD k 0 = y at *
      clear hy
      by_cases hxy : y = x
      · have hm := hmem.out
        rw [hxy] at hm
        subst hxy
        go_wp2
        go_ret
        exact ⟨by simp, rfl⟩
      · go_wp2
        go_round
        case rel => exact ⟨k + 1, by omega, by go_num, hid (by rw [htk.out]; simp only [List.mem_append, List.mem_singleton, not_or]; exact ⟨hr.out, fun e => hxy e.symm⟩)⟩
        case measure => simp [intOf]; omega
    · have hm : x ∉ xs := by have := hr.out; rwa [List.take_of_length_le (by rw [hln.out]; omega)] at this
      go_wp2
      go_ret
      exact ⟨by simp, rfl⟩

def andR (a b : List Int) : List Int := if rightB (-1) a && rightB (-1) b then a.filter (fun x => decide (x ∈ b)) else []
theorem andR_eq (a b : List Int) : andR a b = andL a b := by
  unfold andR andL keptL
  cases rightB (-1) a <;> cases rightB (-1) b <;> simp

def RAInv (w : World) (q : Nat) (xs ys : List Int) (n : Nat) (v i : Value) (wr : World) : Prop :=
  ∃ (k : Nat) (X : Option Addr) (cx : Nat) (m : Nat), k ≤ n ∧ m ≤ k ∧ i = .int .i64 k ∧ v = .slice X m cx ∧ Hid (((xs.take k).filter (fun x => decide (x ∈ ys))).length = m) ∧ wr.ownsRow w.heap.size 3 1 (.slice X m cx) m (((xs.take k).filter (fun x => decide (x ∈ ys))).map (Value.int .i64)) ∧ Chg Nothing w wr

set_option maxHeartbeats 1000000 in
theorem refAnd_any (F G : Nat → Prop) (A B : Option Addr) (n c m d : Nat) (xs ys : List Int) (w : World) (h : IntsAt F w A n c xs) (h' : IntsAt G w B m d ys) (hb : n * 8 ≤ 140737488351232) :
    Calls Try.prog 22 #[.slice A n c, .slice B m d] w fun e w' => GivesInts w.heap.size w' e (andR xs ys) ∧ Chg Nothing w w' := by
  have hln := hid h.2.2.2.1
  have hn := h.2.1
  have hc := h.2.2.1
  have H := hid h; clear h
  have H' := hid h'; clear h'
  unfold andR
  by_cases hr : rightB (-1) xs = true
  · have h1 := refRight_any F A n c xs w H.out
    rw [hr] at h1
    have H1 := hid h1; clear h1
    by_cases hr' : rightB (-1) ys = true
    · rw [hr, hr']
      simp only [Bool.and_self, if_true]
      have h2 := fun q => refRight_any G B m d ys (w.drewN q) (H'.out.chg ((Chg.refl Nothing w).drewN q) (fun _ _ _ h => h))
      rw [hr'] at h2
      have H2 := hid h2; clear h2
      clear hr hr'
      go_enter Try.func22, Try.ntmps22
      go_wp2_with fail
      refine H1.out.mono ?_
      rintro e w' ⟨rfl, q, rfl⟩
      go_wp2_with fail
      refine (H2.out q).mono ?_
      rintro e w' ⟨rfl, q2, rfl⟩
      go_wp2_with fail
      go_loopw [5, 6] (fun v i wr => RAInv w q xs ys n v i wr) (fun _ i _ => n - (intOf i).toNat)
      case atStart => exact ⟨0, none, 0, 0, Nat.zero_le _, Nat.le_refl _, rfl, rfl, hid rfl, World.ownsRow_nil _ _ _ _, (Chg.refl _ _).drewN _⟩
      case round =>
        obtain ⟨k, X, cx, p, hk, hpk, rfl, rfl, hp, hown, hcr⟩ := hrel
        have hwr := hcr.size
        by_cases hlt : k < n
        · obtain ⟨g, o, rfl, _, hgs, hcell⟩ := H.out.at_ hlt
          have hcellr : wr.cell? ⟨g, o + k, none⟩ = some (.int .i64 (xs.getD k 0)) := (World.cell?_of_block (w := w) (hcr.block g hgs id)).trans hcell
          clear hcell
          have htk := hid (take_succ' (d := (0 : Int)) (xs := xs) (k := k) (by rw [hln.out]; exact hlt))
          generalize hy : xs.getD k 0 = y at *
          clear hy
          have hfilt : (xs.take (k + 1)).filter (fun x => decide (x ∈ ys)) = (xs.take k).filter (fun x => decide (x ∈ ys)) ++ (if decide (y ∈ ys) = true then [y] else []) := by
            rw [htk.out, List.filter_append]; congr 1; by_cases hm : y ∈ ys <;> simp [hm]
          have HFI := hid hfilt; clear hfilt
          have hhas := hid (refHas_any G B m d ys y wr (H'.out.chg hcr (fun _ _ _ h => h)))
          cases hpy : decide (y ∈ ys) with
          | true =>
            rw [hpy] at hhas
            go_wp2_with fail
            refine hhas.out.mono ?_
            rintro e w3 ⟨rfl, rfl⟩
            go_wp2_with (at_builtin; refine append_one rfl _ _ 22 rfl w.heap.size 3 (.int .i64 0) 8 Try.underlying22 infoI rfl X cx p _ rfl hown (.int .i64 y) rfl rfl ?_ ?_ ?_ ?_)
            · omega
            · omega
            · exact hwr
            intro X' cx' w4 hown4 hc4
            intros
            have hcr4 := hcr.then hc4 (fun k hk h => by have := own_of hown k h; omega)
            clear hown hc4
            go_wp2
            go_roundw
            case rel => exact ⟨k + 1, X', cx', p + 1, by omega, by omega, by go_num, rfl, hid (by rw [HFI.out, if_pos hpy, List.length_append, hp.out]; rfl), by rw [HFI.out, if_pos hpy, List.map_append]; exact hown4, hcr4⟩
            case measure => simp [intOf]; omega
          | false =>
            rw [hpy] at hhas
            go_wp2_with fail
            refine hhas.out.mono ?_
            rintro e w3 ⟨rfl, rfl⟩
            go_wp2
            go_roundw
            case rel => exact ⟨k + 1, X, cx, p, by omega, by omega, by go_num, rfl, hid (by rw [HFI.out, if_neg (by simp [hpy]), List.append_nil, hp.out]), by rw [HFI.out, if_neg (by simp [hpy]), List.append_nil]; exact hown, hcr⟩
            case measure => simp [intOf]; omega
        · have htk : xs.take k = xs := List.take_of_length_le (by rw [hln.out]; omega)
          rw [htk] at hp hown
          clear htk
          go_wp2
          go_ret
          refine ⟨⟨X, cx, ?_, ?_⟩, hcr⟩
          · rw [hp.out]; rfl
          · rw [hp.out]; exact hown
    · have hrf : rightB (-1) ys = false := by simpa using hr'
      rw [hr, hrf]
      have h2 := fun q => refRight_any G B m d ys (w.drewN q) (H'.out.chg ((Chg.refl Nothing w).drewN q) (fun _ _ _ h => h))
      rw [hrf] at h2
      have H2 := hid h2; clear h2
      clear hr hr' hrf
      go_enter Try.func22, Try.ntmps22
      go_wp2_with fail
      refine H1.out.mono ?_
      rintro e w' ⟨rfl, q, rfl⟩
      go_wp2_with fail
      refine (H2.out q).mono ?_
      rintro e w' ⟨rfl, q2, rfl⟩
      go_wp2_with fail
      go_ret
      exact ⟨GivesInts.nil _ _, (Chg.refl _ _).drewN _⟩
  · have hrf : rightB (-1) xs = false := by simpa using hr
    rw [hrf]
    have h1 := refRight_any F A n c xs w H.out
    rw [hrf] at h1
    have H1 := hid h1; clear h1
    clear hr hrf
    go_enter Try.func22, Try.ntmps22
    go_wp2_with fail
    refine H1.out.mono ?_
    rintro e w' ⟨rfl, q, rfl⟩
    go_wp2_with fail
    go_ret
    exact ⟨GivesInts.nil _ _, (Chg.refl _ _).drewN _⟩
end Go.Proofs.Ytemfmdhgalmgnaa
