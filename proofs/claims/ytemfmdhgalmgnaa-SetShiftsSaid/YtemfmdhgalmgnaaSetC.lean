/- Layer 15, set: Or. -/
import Derived.Test.YtemfmdhgalmgnaaSetB
namespace Go.Proofs.Ytemfmdhgalmgnaa
open Go.RowKit
set_option linter.unusedVariables false

def mergeL : List Int → List Int → List Int
  | [], ys => ys
  | x :: xs, [] => x :: xs
  | x :: xs, y :: ys => if x < y then x :: mergeL xs (y :: ys) else if y < x then y :: mergeL (x :: xs) ys else x :: mergeL xs ys
termination_by xs ys => xs.length + ys.length
theorem mergeL_nil (xs : List Int) : mergeL xs [] = xs := by cases xs <;> simp [mergeL]
theorem mergeL_nil' (ys : List Int) : mergeL [] ys = ys := by simp [mergeL]
theorem mergeL_lt {x y : Int} (xs ys : List Int) (h : x < y) : mergeL (x :: xs) (y :: ys) = x :: mergeL xs (y :: ys) := by rw [mergeL, if_pos h]
theorem mergeL_gt {x y : Int} (xs ys : List Int) (h : y < x) : mergeL (x :: xs) (y :: ys) = y :: mergeL (x :: xs) ys := by rw [mergeL, if_neg (by omega), if_pos h]
theorem mergeL_eq (x : Int) (xs ys : List Int) : mergeL (x :: xs) (x :: ys) = x :: mergeL xs ys := by rw [mergeL, if_neg (by omega), if_neg (by omega)]
theorem mergeL_len (xs ys : List Int) : (mergeL xs ys).length ≤ xs.length + ys.length := by
  fun_induction mergeL xs ys <;> simp_all <;> omega

def orL (a b : List Int) : List Int := if rightB (-1) a && rightB (-1) b then mergeL a b else []

theorem elemI : Try.prog.underlying 22 = some (.slice (Try.prog.elem 22)) := by kernel_rfl
theorem sizeI (w : World) : (sizeOf (Try.prog.elem 22)).run Try.prog w = .ok 1 w := by kernel_rfl

def OrInv (w : World) (F G : Nat → Prop) (xs ys : List Int) (N M : Nat) (a b v : Value) (gg : Nat) (wr : World) : Prop :=
  ∃ (A B X : Option Addr) (n c m d p cx : Nat) (xs' ys' out : List Int), n ≤ N ∧ m ≤ M ∧ n + m + p ≤ N + M ∧ n + m ≤ gg ∧ a = .slice A n c ∧ b = .slice B m d ∧ v = .slice X p cx ∧
    IntsAt F wr A n c xs' ∧ IntsAt G wr B m d ys' ∧ wr.ownsRow w.heap.size 3 1 (.slice X p cx) p (out.map (Value.int .i64)) ∧ Hid (mergeL xs ys = out ++ mergeL xs' ys') ∧ Chg Nothing w wr

set_option maxHeartbeats 2000000 in
theorem setOr_any (F G : Nat → Prop) (A B : Option Addr) (n c m d : Nat) (xs ys : List Int) (w : World) (h : IntsAt F w A n c xs) (h' : IntsAt G w B m d ys) (hF : ∀ k, F k → k < w.heap.size) (hG : ∀ k, G k → k < w.heap.size) (hb : n * 8 ≤ 70368744177664) (hb' : m * 8 ≤ 70368744177664) :
    Calls Try.prog 20 #[.slice A n c, .slice B m d] w fun e w' => GivesInts w.heap.size w' e (orL xs ys) ∧ Chg Nothing w w' := by
  have H := hid h; clear h
  have H' := hid h'; clear h'
  have hFF := hid hF; clear hF
  have hGG := hid hG; clear hG
  unfold orL
  by_cases hr : rightB (-1) xs = true
  · by_cases hr' : rightB (-1) ys = true
    · rw [hr, hr']
      simp only [Bool.and_self, if_true]
      have h1 := setRight_any F A n c xs w H.out
      have h2 := setRight_any G B m d ys w H'.out
      rw [hr] at h1
      rw [hr'] at h2
      have H1 := hid h1; clear h1
      have H2 := hid h2; clear h2
      clear hr hr'
      go_enter Try.func20, Try.ntmps20
      go_wp2_with fail
      refine H1.out.mono ?_
      rintro e w' ⟨rfl, rfl⟩
      go_wp2_with fail
      refine H2.out.mono ?_
      rintro e w' ⟨rfl, rfl⟩
      go_wp2_with fail
      go_loopg [0, 1, 5] (n + m) (fun gg a b v wr => OrInv w F G xs ys n m a b v gg wr)
      case atStart => exact ⟨A, B, none, n, c, m, d, 0, 0, xs, ys, [], Nat.le_refl _, Nat.le_refl _, by omega, Nat.le_refl _, rfl, rfl, rfl, H.out, H'.out, World.ownsRow_nil _ _ _ _, hid rfl, Chg.refl _ _⟩
      case round =>
        obtain ⟨A', B', X, n', c', m', d', p, cx, xs', ys', out, hn, hm, hnm, hgg, rfl, rfl, rfl, hI, hJ, hown, hmg, hcr⟩ := hrel
        have hc1 := hI.2.1
        have hc2 := hI.2.2.1
        have hd1 := hJ.2.1
        have hd2 := hJ.2.2.1
        have hl1 := hI.2.2.2.1
        have hl2 := hJ.2.2.2.1
        have hwr := hcr.size
        by_cases hn0 : 0 < n'
        · by_cases hm0 : 0 < m'
          · obtain ⟨g, o, rfl, hFg, _, hcell⟩ := hI.at_ hn0
            obtain ⟨g2, o2, rfl, hGg, _, hcell2⟩ := hJ.at_ hm0
            cases xs' with
            | nil => simp at hl1; omega
            | cons x xs' =>
            cases ys' with
            | nil => simp at hl2; omega
            | cons y ys' =>
            simp only [Nat.add_zero, List.getD_cons_zero] at hcell hcell2
            obtain ⟨A1, hA1, hsl1⟩ := run_tail elemI sizeI (some ⟨g, o, none⟩) n' c' (by omega) ⟨g, o, rfl⟩
            obtain ⟨B1, hB1, hsl2⟩ := run_tail elemI sizeI (some ⟨g2, o2, none⟩) m' d' (by omega) ⟨g2, o2, rfl⟩
            have hI' := hid (hI.tail hA1)
            have hJ' := hid (hJ.tail hB1)
            have HI := hid hI; clear hI
            have HJ := hid hJ; clear hJ
            clear hA1 hB1 hl1 hl2
            have hcase : x < y ∨ y < x ∨ x = y := by omega
            have hstep : ∀ (least : Int) (nn mm : Nat) (AA BB : Option Addr) (cc dd : Nat) (xs2 ys2 : List Int) (W : World) (X' : Option Addr) (cx' : Nat),
                nn ≤ n' → mm ≤ m' → nn + mm + 1 ≤ n' + m' → IntsAt F wr AA nn cc xs2 → IntsAt G wr BB mm dd ys2 → mergeL (x :: xs') (y :: ys') = least :: mergeL xs2 ys2 →
                W.ownsRow w.heap.size 3 1 (.slice X' (p + 1) cx') (p + 1) (out.map (Value.int .i64) ++ [.int .i64 least]) → Chg (Of X) wr W →
                OrInv w F G xs ys n m (.slice AA nn cc) (.slice BB mm dd) (.slice X' (p + 1) cx') (n' + m' - 1) W := by
              intro least nn mm AA BB cc dd xs2 ys2 W X' cx' e1 e2 e3 hIa hJb hmm hoW hcW
              have ox := own_of hown
              refine ⟨AA, BB, X', nn, cc, mm, dd, p + 1, cx', xs2, ys2, out ++ [least], by omega, by omega, by omega, by omega, rfl, rfl, rfl, hIa.chg hcW (fun k _ hk h => by have := ox k h; have := hFF.out k hk; omega), hJb.chg hcW (fun k _ hk h => by have := ox k h; have := hGG.out k hk; omega), by rw [List.map_append]; exact hoW, hid ?_, hcr.then hcW (fun k hk h => by have := ox k h; omega)⟩
              rw [hmg.out, hmm, List.append_assoc]; rfl
            have HSTEP := hid hstep; clear hstep
            have hgo : n' + m' - 1 < gk := by omega
            have gF := hFF.out g hFg
            have gG := hGG.out g2 hGg
            have hpn : (p + 1) * 8 ≤ 140737488355328 := by omega
            clear hmg
            rcases hcase with hxy | hxy | rfl
            all_goals
              go_wp2
              go_quiet (fail)
            · have hownq := own_chg hown ((Chg.refl Nothing wr).drewN nq) (fun _ _ h => h)
              go_wp2_with (at_builtin; refine append_one rfl _ _ 22 rfl w.heap.size 3 (.int .i64 0) 8 Try.underlying22 infoI rfl X cx p _ rfl hownq (.int .i64 x) rfl rfl ?_ ?_ ?_ ?_)
              · exact hpn
              · omega
              · exact hwr
              intro X' cx' w4 hown4 hc4 hX
              have hc04 : Chg (Of X) wr w4 := ((Chg.refl (Of X) wr).drewN nq).trans hc4
              have ox := own_of hown
              have c1 : w4.cell? ⟨g, o, none⟩ = some (.int .i64 x) := (World.cell?_of_block (w := wr) (hc04.block g (by omega) (fun h => by have := ox g h; omega))).trans hcell
              have c2 : w4.cell? ⟨g2, o2, none⟩ = some (.int .i64 y) := (World.cell?_of_block (w := wr) (hc04.block g2 (by omega) (fun h => by have := ox g2 h; omega))).trans hcell2
              clear ox hownq hc4 hX hcell hcell2 hown
              have HO4 := hid hown4; clear hown4
              go_wp2
              go_roundg (n' + m' - 1)
              · exact HSTEP.out x (n' - 1) m' A1 (some ⟨g2, o2, none⟩) (c' - 1) d' xs' (y :: ys') w4 X' cx' (by omega) (by omega) (by omega) hI'.out HJ.out (mergeL_lt _ _ hxy) HO4.out hc04
              · exact hgo
            · have hownq := own_chg hown ((Chg.refl Nothing wr).drewN nq) (fun _ _ h => h)
              go_wp2_with (at_builtin; refine append_one rfl _ _ 22 rfl w.heap.size 3 (.int .i64 0) 8 Try.underlying22 infoI rfl X cx p _ rfl hownq (.int .i64 y) rfl rfl ?_ ?_ ?_ ?_)
              · exact hpn
              · omega
              · exact hwr
              intro X' cx' w4 hown4 hc4 hX
              have hc04 : Chg (Of X) wr w4 := ((Chg.refl (Of X) wr).drewN nq).trans hc4
              have ox := own_of hown
              have c1 : w4.cell? ⟨g, o, none⟩ = some (.int .i64 x) := (World.cell?_of_block (w := wr) (hc04.block g (by omega) (fun h => by have := ox g h; omega))).trans hcell
              have c2 : w4.cell? ⟨g2, o2, none⟩ = some (.int .i64 y) := (World.cell?_of_block (w := wr) (hc04.block g2 (by omega) (fun h => by have := ox g2 h; omega))).trans hcell2
              clear ox hownq hc4 hX hcell hcell2 hown
              have HO4 := hid hown4; clear hown4
              go_wp2
              go_roundg (n' + m' - 1)
              · exact HSTEP.out y n' (m' - 1) (some ⟨g, o, none⟩) B1 c' (d' - 1) (x :: xs') ys' w4 X' cx' (by omega) (by omega) (by omega) HI.out hJ'.out (mergeL_gt _ _ hxy) HO4.out hc04
              · exact hgo
            · have hownq := own_chg hown ((Chg.refl Nothing wr).drewN nq) (fun _ _ h => h)
              go_wp2_with (at_builtin; refine append_one rfl _ _ 22 rfl w.heap.size 3 (.int .i64 0) 8 Try.underlying22 infoI rfl X cx p _ rfl hownq (.int .i64 x) rfl rfl ?_ ?_ ?_ ?_)
              · exact hpn
              · omega
              · exact hwr
              intro X' cx' w4 hown4 hc4 hX
              have hc04 : Chg (Of X) wr w4 := ((Chg.refl (Of X) wr).drewN nq).trans hc4
              have ox := own_of hown
              have c1 : w4.cell? ⟨g, o, none⟩ = some (.int .i64 x) := (World.cell?_of_block (w := wr) (hc04.block g (by omega) (fun h => by have := ox g h; omega))).trans hcell
              have c2 : w4.cell? ⟨g2, o2, none⟩ = some (.int .i64 x) := (World.cell?_of_block (w := wr) (hc04.block g2 (by omega) (fun h => by have := ox g2 h; omega))).trans hcell2
              clear ox hownq hc4 hX hcell hcell2 hown
              have HO4 := hid hown4; clear hown4
              go_wp2
              go_roundg (n' + m' - 1)
              · exact HSTEP.out x (n' - 1) (m' - 1) A1 B1 (c' - 1) (d' - 1) xs' ys' w4 X' cx' (by omega) (by omega) (by omega) hI'.out hJ'.out (mergeL_eq _ _ _) HO4.out hc04
              · exact hgo
          · have hmm : mergeL xs' ys' = xs' ++ ys' := by
              have : xs' = [] ∨ ys' = [] := by
                first
                  | exact .inr (List.eq_nil_of_length_eq_zero (by omega))
                  | exact .inl (List.eq_nil_of_length_eq_zero (by omega))
              rcases this with rfl | rfl
              · rw [mergeL_nil']; rfl
              · rw [mergeL_nil, List.append_nil]
            have HMG := hid (hmg.out.trans (by rw [hmm])); clear hmm hmg
            have hout : p + n' + m' ≤ n + m := by omega
            have HI := hid hI; clear hI
            have HJ := hid hJ; clear hJ
            have HC1 := hid hl1
            have HC2 := hid hl2; clear hl1 hl2
            have hpn : p + n' ≤ n + m := by omega
            go_wp2_with (at_builtin; refine append_gen (o := ⟨some 50, _, _, _, _, _⟩) rfl _ _ 22 rfl w.heap.size 3 (.int .i64 0) 1 8 Try.underlying22 infoI rfl (by decide) X cx p (out.map (Value.int .i64)) rfl hown A' n' c' (xs'.map (Value.int .i64)) rfl ?_ ?_ ?_ ?_ (nums_one _ _) ?_ ?_ ?_ ?_)
            · rw [List.length_map, HC1.out]; omega
            · exact HI.out.1
            · exact HI.out.2.1
            · exact HI.out.cells'
            · unfold maxLen; omega
            · omega
            · exact hwr
            intro X1 cx1 w4 hown4 hc4
            intros
            have ox := own_of hown
            have hcr4 := hcr.then hc4 (fun k hk h => by have := ox k h; omega)
            have HJ4 := hid (HJ.out.chg hc4 (fun k _ hk h => by have := ox k h; have := hGG.out k hk; omega))
            have hw4 := hcr4.size
            clear hc4 ox hown
            go_wp2_with (at_builtin; refine append_gen (o := ⟨some 52, _, _, _, _, _⟩) rfl _ _ 22 rfl w.heap.size 3 (.int .i64 0) 1 8 Try.underlying22 infoI rfl (by decide) X1 cx1 (p + n') _ rfl hown4 B' m' d' (ys'.map (Value.int .i64)) rfl ?_ ?_ ?_ ?_ (nums_one _ _) ?_ ?_ ?_ ?_)
            · rw [List.length_map, HC2.out]; omega
            · exact HJ4.out.1
            · exact HJ4.out.2.1
            · exact HJ4.out.cells'
            · unfold maxLen; omega
            · omega
            · exact hw4
            intro X2 cx2 w5 hown5 hc5
            intros
            have hcr5 := hcr4.then hc5 (fun k hk h => by have := own_of hown4 k h; omega)
            go_wp2
            go_ret
            have hlo : out.length = p := by have := hown4.1; simp at this; have := HC1.out; omega
            have hlen : (mergeL xs ys).length = p + n' + m' := by rw [HMG.out, List.length_append, List.length_append, hlo, HC1.out, HC2.out]; omega
            refine ⟨⟨X2, cx2, by rw [hlen]; rfl, ?_⟩, hcr5⟩
            rw [hlen, HMG.out, List.map_append, List.map_append]
            exact hown5
        · have hmm : mergeL xs' ys' = xs' ++ ys' := by
            have : xs' = [] ∨ ys' = [] := by
              first
                | exact .inr (List.eq_nil_of_length_eq_zero (by omega))
                | exact .inl (List.eq_nil_of_length_eq_zero (by omega))
            rcases this with rfl | rfl
            · rw [mergeL_nil']; rfl
            · rw [mergeL_nil, List.append_nil]
          have HMG := hid (hmg.out.trans (by rw [hmm])); clear hmm hmg
          have hout : p + n' + m' ≤ n + m := by omega
          have HI := hid hI; clear hI
          have HJ := hid hJ; clear hJ
          have HC1 := hid hl1
          have HC2 := hid hl2; clear hl1 hl2
          have hpn : p + n' ≤ n + m := by omega
          go_wp2_with (at_builtin; refine append_gen (o := ⟨some 50, _, _, _, _, _⟩) rfl _ _ 22 rfl w.heap.size 3 (.int .i64 0) 1 8 Try.underlying22 infoI rfl (by decide) X cx p (out.map (Value.int .i64)) rfl hown A' n' c' (xs'.map (Value.int .i64)) rfl ?_ ?_ ?_ ?_ (nums_one _ _) ?_ ?_ ?_ ?_)
          · rw [List.length_map, HC1.out]; omega
          · exact HI.out.1
          · exact HI.out.2.1
          · exact HI.out.cells'
          · unfold maxLen; omega
          · omega
          · exact hwr
          intro X1 cx1 w4 hown4 hc4
          intros
          have ox := own_of hown
          have hcr4 := hcr.then hc4 (fun k hk h => by have := ox k h; omega)
          have HJ4 := hid (HJ.out.chg hc4 (fun k _ hk h => by have := ox k h; have := hGG.out k hk; omega))
          have hw4 := hcr4.size
          clear hc4 ox hown
          go_wp2_with (at_builtin; refine append_gen (o := ⟨some 52, _, _, _, _, _⟩) rfl _ _ 22 rfl w.heap.size 3 (.int .i64 0) 1 8 Try.underlying22 infoI rfl (by decide) X1 cx1 (p + n') _ rfl hown4 B' m' d' (ys'.map (Value.int .i64)) rfl ?_ ?_ ?_ ?_ (nums_one _ _) ?_ ?_ ?_ ?_)
          · rw [List.length_map, HC2.out]; omega
          · exact HJ4.out.1
          · exact HJ4.out.2.1
          · exact HJ4.out.cells'
          · unfold maxLen; omega
          · omega
          · exact hw4
          intro X2 cx2 w5 hown5 hc5
          intros
          have hcr5 := hcr4.then hc5 (fun k hk h => by have := own_of hown4 k h; omega)
          go_wp2
          go_ret
          have hlo : out.length = p := by have := hown4.1; simp at this; have := HC1.out; omega
          have hlen : (mergeL xs ys).length = p + n' + m' := by rw [HMG.out, List.length_append, List.length_append, hlo, HC1.out, HC2.out]; omega
          refine ⟨⟨X2, cx2, by rw [hlen]; rfl, ?_⟩, hcr5⟩
          rw [hlen, HMG.out, List.map_append, List.map_append]
          exact hown5
    · have hrf : rightB (-1) ys = false := by simpa using hr'
      rw [hr, hrf]
      have h1 := setRight_any F A n c xs w H.out
      have h2 := setRight_any G B m d ys w H'.out
      rw [hr] at h1
      rw [hrf] at h2
      have H1 := hid h1; clear h1
      have H2 := hid h2; clear h2
      clear hr hr' hrf
      go_enter Try.func20, Try.ntmps20
      go_wp2_with fail
      refine H1.out.mono ?_
      rintro e w' ⟨rfl, rfl⟩
      go_wp2_with fail
      refine H2.out.mono ?_
      rintro e w' ⟨rfl, rfl⟩
      go_wp2_with fail
      go_ret
      exact ⟨GivesInts.nil _ _, Chg.refl _ _⟩
  · have hrf : rightB (-1) xs = false := by simpa using hr
    rw [hrf]
    have h1 := setRight_any F A n c xs w H.out
    rw [hrf] at h1
    have H1 := hid h1; clear h1
    clear hr hrf
    go_enter Try.func20, Try.ntmps20
    go_wp2_with fail
    refine H1.out.mono ?_
    rintro e w' ⟨rfl, rfl⟩
    go_wp2_with fail
    go_ret
    exact ⟨GivesInts.nil _ _, Chg.refl _ _⟩
end Go.Proofs.Ytemfmdhgalmgnaa
