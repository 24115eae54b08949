/- Layer 15: the reference's Not and Or. -/
import Derived.Test.YtemfmdhgalmgnaaSetE
namespace Go.Proofs.Ytemfmdhgalmgnaa
open Go.RowKit
set_option linter.unusedVariables false
theorem rightB_pair {a : Int} {xs : List Int} (h : rightB a xs = true) : xs.Pairwise (· < ·) := by
  induction xs generalizing a with
  | nil => exact List.Pairwise.nil
  | cons z zs ih =>
    simp only [rightB] at h
    split at h
    · cases h
    · exact List.pairwise_cons.2 ⟨fun u hu => rightB_lt h u hu, ih h⟩
theorem rising_get {xs : List Int} (h : rightB (-1) xs = true) {i j : Nat} (hij : i < j) (hj : j < xs.length) : xs.getD i 0 < xs.getD j 0 := by
  have := List.pairwise_iff_getElem.1 (rightB_pair h) i j (by omega) hj hij
  simpa [hj, show i < xs.length from by omega] using this

def RNInv (w : World) (xs : List Int) (N : Nat) (v a i : Value) (wr : World) : Prop :=
  ∃ (k at_ : Nat) (X : Option Addr) (cx m : Nat), k ≤ N ∧ m ≤ k ∧ at_ ≤ xs.length ∧ i = .int .i64 k ∧ a = .int .i64 at_ ∧ v = .slice X m cx ∧ Hid (((below_ k).filter (fun z => !decide (z ∈ xs))).length = m) ∧ wr.ownsRow w.heap.size 3 1 (.slice X m cx) m (((below_ k).filter (fun z => !decide (z ∈ xs))).map (Value.int .i64)) ∧ Hid (∀ j, j < at_ → xs.getD j 0 < k) ∧ Hid (at_ < xs.length → (k : Int) ≤ xs.getD at_ 0) ∧ Chg Nothing w wr

set_option maxHeartbeats 2000000 in
set_option maxRecDepth 1000000 in
theorem refNot_any (F : Nat → Prop) (A : Option Addr) (n c : Nat) (xs : List Int) (x : Int) (w : World) (h : IntsAt F w A n c xs) (hb : n * 8 ≤ 140737488351232) :
    Calls Try.prog 27 #[.slice A n c, .int .i64 x] w fun e w' => GivesInts w.heap.size w' e (notL xs x) ∧ Chg Nothing w w' := by
  have hln := hid h.2.2.2.1
  have hn := h.2.1
  have hc := h.2.2.1
  have H := hid h; clear h
  have hnl : notL xs x = if rightB (-1) xs then (below_ (clip x)).filter (fun z => !decide (z ∈ xs)) else [] := rfl
  rw [hnl]
  clear hnl
  have h1 := refRight_any F A n c xs w H.out
  by_cases hr : rightB (-1) xs = true
  · rw [hr] at h1
    rw [if_pos hr]
    have H1 := hid h1; clear h1
    have HR := hid hr; clear hr
    obtain ⟨N, hN⟩ : ∃ N, N = clip x := ⟨_, rfl⟩
    rw [← hN]
    have hN' : (N : Int) = max 0 (min x 100000) := by rw [hN]; unfold clip; omega
    have HN := hid hN'; clear hN' hN
    have hcase : (x ≤ 0 ∧ N = 0) ∨ (0 < x ∧ x ≤ 100000 ∧ x ≤ N ∧ N ≤ x) ∨ (100000 < x ∧ 100000 ≤ (N : Int) ∧ (N : Int) ≤ 100000) := by have := HN.out; omega
    rcases hcase with ⟨hx, rfl⟩ | ⟨hx, hx2, hx3, hx4⟩ | ⟨hx, hx3, hx4⟩
    · go_enter Try.func27, Try.ntmps27
      go_wp2_with fail
      refine H1.out.mono ?_
      rintro e w' ⟨rfl, q, rfl⟩
      go_wp2_with fail
      go_loop [5, 7] (fun v i => v = .slice none 0 0 ∧ i = .int .i64 0) (fun _ _ => 0)
      case atStart => exact ⟨rfl, rfl⟩
      case round =>
        obtain ⟨rfl, rfl⟩ := hrel
        go_wp2
        go_ret
        exact ⟨GivesInts.nil _ _, (Chg.refl _ _).drewN _⟩
    all_goals
      go_enter Try.func27, Try.ntmps27
      go_wp2_with fail
      refine H1.out.mono ?_
      rintro e w' ⟨rfl, q, rfl⟩
      go_wp2_with fail
      go_loopw [5, 6, 7] (fun v a i wr => RNInv w xs N v a i wr) (fun _ _ i _ => N - (intOf i).toNat)
      case atStart => exact ⟨0, 0, none, 0, 0, Nat.zero_le _, Nat.le_refl _, Nat.zero_le _, rfl, rfl, rfl, hid rfl, World.ownsRow_nil _ _ _ _, hid (fun j hj => absurd hj (by omega)), hid (fun hh => by
          have h0 := rightB_lt HR.out (xs.getD 0 0) (by rw [show xs.getD 0 0 = xs[0]'hh from by simp [hh]]; exact List.getElem_mem _)
          show ((0 : Nat) : Int) ≤ _
          omega), (Chg.refl _ _).drewN _⟩
      case round =>
        obtain ⟨k, a, X, cx, m, hk, hmk, ha, rfl, rfl, rfl, hm, hown, hlo, hhi, hcr⟩ := hrel
        have hwr := hcr.size
        rw [hln.out] at ha
        have hbs := hid (below_succ k)
        rcases Nat.lt_or_ge k N with hlt | hge
        rotate_left
        · have hkN := Nat.le_antisymm hk hge
          go_wp2
          go_ret
          subst hkN
          exact ⟨⟨X, cx, by rw [hm.out]; rfl, by rw [hm.out]; exact hown⟩, hcr⟩
        · have hmem := mem_at HR.out (k := a) (x := k) hlo.out hhi.out
          rw [hln.out] at hmem
          have hfilt : (below_ (k + 1)).filter (fun z => !decide (z ∈ xs)) = (below_ k).filter (fun z => !decide (z ∈ xs)) ++ (if decide ((k : Int) ∈ xs) = true then [] else [(k : Int)]) := by
            rw [hbs.out, List.filter_append]; congr 1; by_cases hm : (k : Int) ∈ xs <;> simp [hm]
          have HFI := hid hfilt; clear hfilt
          by_cases hal : a < n
          · obtain ⟨g, o, rfl, _, hgs, hcell⟩ := (H.out.chg hcr (fun _ _ _ h => h)).at_ hal
            have hhi' := hhi.out (by rw [hln.out]; exact hal)
            have hnext := hid (show a + 1 < xs.length → xs.getD a 0 < xs.getD (a + 1) 0 from fun h => rising_get HR.out (by omega) h)
            have hvv := hid (rfl : xs.getD a 0 = xs.getD a 0)
            by_cases hav : xs.getD a 0 = k
            · have hM : decide ((k : Int) ∈ xs) = true := by rw [hmem, decide_eq_true hav, decide_eq_true hal]; rfl
              have hM' := hid hM; clear hM hmem
              have HAV := hid hav
              rw [hav] at hcell
              clear hav hhi'
              go_wp2
              go_roundw
              case rel => exact ⟨k + 1, a + 1, X, cx, m, by omega, by omega, by rw [hln.out]; omega, by go_num, by go_num, rfl, hid (by rw [HFI.out, if_pos hM'.out, List.append_nil, hm.out]), by rw [HFI.out, if_pos hM'.out, List.append_nil]; exact hown, hid (fun j hj => by
                  rcases Nat.lt_succ_iff_lt_or_eq.1 hj with h | rfl
                  · have := hlo.out j h; omega
                  · rw [HAV.out]; omega), hid (fun h => by have := hnext.out h; rw [HAV.out] at this; omega), hcr⟩
              case measure => simp [intOf]; omega
            · have hM : decide ((k : Int) ∈ xs) = false := by rw [hmem, decide_eq_false hav, Bool.and_false]
              have hM' := hid hM; clear hM hmem
              have hlt2 : (k : Int) < xs.getD a 0 := by omega
              have HLT := hid hlt2
              generalize hv : xs.getD a 0 = v at hcell hlt2
              clear hv hav hhi'
              go_wp2_with (at_builtin; refine append_one rfl _ _ 22 rfl w.heap.size 3 (.int .i64 0) 8 Try.underlying22 infoI rfl X cx m _ rfl hown (.int .i64 k) rfl rfl ?_ ?_ ?_ ?_)
              any_goals (first | omega | exact hwr)
              intro X' cx' w4 hown4 hc4
              intros
              have hcr4 := hcr.then hc4 (fun k hk h => by have := own_of hown k h; omega)
              clear hown hc4
              go_wp2
              go_roundw
              case rel => exact ⟨k + 1, a, X', cx', m + 1, by omega, by omega, by rw [hln.out]; omega, by go_num, rfl, rfl, hid (by rw [HFI.out, hM'.out, if_neg (by decide), List.length_append, hm.out]; rfl), by rw [HFI.out, hM'.out, if_neg (by decide), List.map_append]; exact hown4, hid (fun j hj => by have := hlo.out j hj; omega), hid (fun _ => by have := HLT.out; omega), hcr4⟩
              case measure => simp [intOf]; omega
          · have hM : decide ((k : Int) ∈ xs) = false := by rw [hmem]; simp [hal]
            have hM' := hid hM; clear hM hmem
            go_wp2_with (at_builtin; refine append_one rfl _ _ 22 rfl w.heap.size 3 (.int .i64 0) 8 Try.underlying22 infoI rfl X cx m _ rfl hown (.int .i64 k) rfl rfl ?_ ?_ ?_ ?_)
            any_goals (first | omega | exact hwr)
            intro X' cx' w4 hown4 hc4
            intros
            have hcr4 := hcr.then hc4 (fun k hk h => by have := own_of hown k h; omega)
            clear hown hc4
            go_wp2
            go_roundw
            case rel => exact ⟨k + 1, a, X', cx', m + 1, by omega, by omega, by rw [hln.out]; omega, by go_num, rfl, rfl, hid (by rw [HFI.out, hM'.out, if_neg (by decide), List.length_append, hm.out]; rfl), by rw [HFI.out, hM'.out, if_neg (by decide), List.map_append]; exact hown4, hid (fun j hj => by have := hlo.out j hj; omega), hid (fun h => by rw [hln.out] at h; omega), hcr4⟩
            case measure => simp [intOf]; omega
  · have hrf : rightB (-1) xs = false := by simpa using hr
    rw [hrf] at h1
    rw [if_neg hr]
    have H1 := hid h1; clear h1
    clear hr hrf
    go_enter Try.func27, Try.ntmps27
    go_wp2_with fail
    refine H1.out.mono ?_
    rintro e w' ⟨rfl, q, rfl⟩
    go_wp2_with fail
    go_ret
    exact ⟨GivesInts.nil _ _, (Chg.refl _ _).drewN _⟩
end Go.Proofs.Ytemfmdhgalmgnaa
