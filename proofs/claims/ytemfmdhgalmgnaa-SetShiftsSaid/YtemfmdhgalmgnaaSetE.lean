/- Layer 15: the reference's put, Or, Not, Shift, Below. -/
import Derived.Test.YtemfmdhgalmgnaaSetD
namespace Go.Proofs.Ytemfmdhgalmgnaa
open Go.RowKit
set_option linter.unusedVariables false
def putGo (x : Int) : List Int → Bool → List Int
  | [], done => if done then [] else [x]
  | y :: ys, done => (if x ≤ y ∧ done = false then [x] else []) ++ ((if y ≠ x then [y] else []) ++ putGo x ys (done || decide (x ≤ y)))
theorem putGo_len (x : Int) (ys : List Int) (d : Bool) : (putGo x ys d).length ≤ ys.length + (if d then 0 else 1) := by
  induction ys generalizing d with
  | nil => cases d <;> simp [putGo]
  | cons y ys ih =>
    simp only [putGo, List.length_append, List.length_cons]
    have := ih (d || decide (x ≤ y))
    by_cases h1 : x ≤ y <;> cases d <;> by_cases h2 : y = x <;> simp [h1, h2] at this ⊢ <;> omega

def PutInv (w : World) (xs : List Int) (x : Int) (n : Nat) (v dn i : Value) (wr : World) : Prop :=
  ∃ (k : Nat) (done : Bool) (X : Option Addr) (cx m : Nat) (out : List Int), k ≤ n ∧ m ≤ k + (if done then 1 else 0) ∧ i = .int .i64 k ∧ dn = .bool done ∧ v = .slice X m cx ∧ Hid (putGo x xs false = out ++ putGo x (xs.drop k) done) ∧
    wr.ownsRow w.heap.size 3 1 (.slice X m cx) m (out.map (Value.int .i64)) ∧ Chg Nothing w wr

set_option maxHeartbeats 2000000 in
theorem put_any (F : Nat → Prop) (A : Option Addr) (n c : Nat) (xs : List Int) (x : Int) (w : World) (h : IntsAt F w A n c xs) (hF : ∀ k, F k → k < w.heap.size) (hb : (n + 1) * 8 ≤ 140737488355328) :
    Calls Try.prog 43 #[.slice A n c, .int .i64 x] w fun e w' => GivesInts w.heap.size w' e (putGo x xs false) ∧ Chg Nothing w w' := by
  have hln := hid h.2.2.2.1
  have hn := h.2.1
  have hc := h.2.2.1
  have H := hid h; clear h
  have hFF := hid hF; clear hF
  go_enter Try.func43, Try.ntmps43
  go_wp2_with fail
  go_loopw [5, 6, 7] (fun v dn i wr => PutInv w xs x n v dn i wr) (fun _ _ i _ => n - (intOf i).toNat)
  case atStart => exact ⟨0, false, none, 0, 0, [], Nat.zero_le _, Nat.le_refl _, rfl, rfl, rfl, hid rfl, World.ownsRow_nil _ _ _ _, Chg.refl _ _⟩
  case round =>
    obtain ⟨k, done, X, cx, m, out, hk, hmk, rfl, rfl, rfl, hp, hown, hcr⟩ := hrel
    have hwr := hcr.size
    by_cases hlt : k < n
    · obtain ⟨g, o, rfl, hFg, hgs, hcell⟩ := (H.out.chg hcr (fun _ _ _ h => h)).at_ hlt
      have hgw := hFF.out g hFg
      have hd := drop_cons (d := (0 : Int)) (xs := xs) (k := k) (by rw [hln.out]; exact hlt)
      have hp2 := hp.out
      rw [hd] at hp2
      clear hd hp
      generalize hy : xs.getD k 0 = y at *
      clear hy
      have hcase : (x ≤ y ∧ done = false) ∨ ¬ (x ≤ y ∧ done = false) := by by_cases h : (x ≤ y ∧ done = false) <;> simp [h]
      rcases hcase with ⟨hxy, rfl⟩ | hno
      · -- x goes in here
        simp only [Bool.false_eq_true, if_false] at hmk
        have hown' := hid hown
        go_wp2_with (at_builtin; refine append_one (o := ⟨some 27, _, _, _, _, _⟩) rfl _ _ 22 rfl w.heap.size 3 (.int .i64 0) 8 Try.underlying22 infoI rfl X cx m _ rfl hown (.int .i64 x) rfl rfl ?_ ?_ ?_ ?_)
        · omega
        · omega
        · exact hwr
        intro X' cx' w4 hown4 hc4
        intros
        have hc4' : Chg Nothing w w4 := hcr.then hc4 (fun k hk h => by have := own_of hown k h; omega)
        have hcell4 : w4.cell? ⟨g, o + k, none⟩ = some (.int .i64 y) := (World.cell?_of_block (w := wr) (hc4.block g (World.block_lt_of_cell? wr _ hcell) (fun h => by have := own_of hown g h; omega))).trans hcell
        have hw4 := hc4'.size
        clear hown' hown hc4 hcell
        by_cases hyx : y = x
        · have hp3 : putGo x xs false = (out ++ [x]) ++ putGo x (xs.drop (k + 1)) true := by rw [hp2]; simp [putGo, hyx]
          have HP3 := hid hp3; clear hp3 hp2
          subst hyx
          go_wp2
          go_roundw
          case rel => exact ⟨k + 1, true, X', cx', m + 1, out ++ [y], by omega, by simp; omega, by go_num, rfl, rfl, HP3, by rw [List.map_append]; exact hown4, hc4'⟩
          case measure => simp [intOf]; omega
        · have hp3 : putGo x xs false = (out ++ [x] ++ [y]) ++ putGo x (xs.drop (k + 1)) true := by rw [hp2]; simp [putGo, hyx, hxy]
          have HP3 := hid hp3; clear hp3 hp2
          have hxy' : x < y := by omega
          go_wp2_with (at_builtin; refine append_one (o := ⟨some 40, _, _, _, _, _⟩) rfl _ _ 22 rfl w.heap.size 3 (.int .i64 0) 8 Try.underlying22 infoI rfl X' cx' (m + 1) _ rfl hown4 (.int .i64 y) rfl rfl ?_ ?_ ?_ ?_)
          · omega
          · omega
          · exact hw4
          intro X2 cx2 w5 hown5 hc5
          intros
          have hc5' : Chg Nothing w w5 := hc4'.then hc5 (fun k hk h => by have := own_of hown4 k h; omega)
          clear hown4 hc5
          go_wp2
          go_roundw
          case rel => exact ⟨k + 1, true, X2, cx2, m + 1 + 1, out ++ [x] ++ [y], by omega, by simp; omega, by go_num, rfl, rfl, HP3, by simpa using hown5, hc5'⟩
          case measure => simp [intOf]; omega
      · have hdd : (done || decide (x ≤ y)) = done := by
          cases done
          · simp at hno; simp; omega
          · rfl
        have hno' : (x ≤ y ∧ done = true) ∨ y < x := by
          cases done
          · simp at hno; omega
          · simp; omega
        have hmk' : m ≤ k + 1 := by cases done <;> simp at hmk <;> omega
        by_cases hyx : y = x
        · have hp3 : putGo x xs false = out ++ putGo x (xs.drop (k + 1)) done := by rw [hp2, putGo, if_neg hno, hdd]; simp [hyx]
          have HP3 := hid hp3; clear hp3 hp2 hno hdd
          subst hyx
          have hdone : done = true := by rcases hno' with ⟨_, h⟩ | h
                                         · exact h
                                         · omega
          subst hdone
          clear hno'
          go_wp2
          go_roundw
          case rel => exact ⟨k + 1, true, X, cx, m, out, by omega, by simp at hmk ⊢; omega, by go_num, rfl, rfl, HP3, hown, hcr⟩
          case measure => simp [intOf]; omega
        · have hp3 : putGo x xs false = (out ++ [y]) ++ putGo x (xs.drop (k + 1)) done := by rw [hp2, putGo, if_neg hno, hdd]; simp [hyx]
          have HP3 := hid hp3; clear hp3 hp2 hno hdd
          rcases hno' with ⟨hxy, rfl⟩ | hyx'
          · have hxy' : x < y := by omega
            simp only [if_true] at hmk
            go_wp2_with (at_builtin; refine append_one (o := ⟨some 40, _, _, _, _, _⟩) rfl _ _ 22 rfl w.heap.size 3 (.int .i64 0) 8 Try.underlying22 infoI rfl X cx m _ rfl hown (.int .i64 y) rfl rfl ?_ ?_ ?_ ?_)
            · omega
            · omega
            · exact hwr
            intro X2 cx2 w5 hown5 hc5
            intros
            have hc5' : Chg Nothing w w5 := hcr.then hc5 (fun k hk h => by have := own_of hown k h; omega)
            clear hown hc5
            go_wp2
            go_roundw
            case rel => exact ⟨k + 1, true, X2, cx2, m + 1, out ++ [y], by omega, by simp; omega, by go_num, rfl, rfl, HP3, by simpa using hown5, hc5'⟩
            case measure => simp [intOf]; omega
          · go_wp2_with (at_builtin; refine append_one (o := ⟨some 40, _, _, _, _, _⟩) rfl _ _ 22 rfl w.heap.size 3 (.int .i64 0) 8 Try.underlying22 infoI rfl X cx m _ rfl hown (.int .i64 y) rfl rfl ?_ ?_ ?_ ?_)
            any_goals (first | omega | exact hwr)
            intro X2 cx2 w5 hown5 hc5
            intros
            have hc5' : Chg Nothing w w5 := hcr.then hc5 (fun k hk h => by have := own_of hown k h; omega)
            clear hown hc5
            go_wp2
            go_roundw
            case rel => exact ⟨k + 1, done, X2, cx2, m + 1, out ++ [y], by omega, by cases done <;> simp at hmk ⊢ <;> omega, by go_num, rfl, rfl, HP3, by simpa using hown5, hc5'⟩
            case measure => simp [intOf]; omega
    · have hd : xs.drop k = [] := List.drop_eq_nil_of_le (by rw [hln.out]; omega)
      rw [hd] at hp
      clear hd
      have hlo : out.length = m := by have := hown.1; simpa using this
      have HLO := hid hlo; clear hlo
      cases done with
      | true =>
        have hpe := hp.out
        simp only [putGo, if_true, List.append_nil] at hpe
        have HPE := hid hpe
        clear hp hpe hmk
        go_wp2
        go_ret
        rw [HPE.out]
        exact ⟨⟨X, cx, by rw [HLO.out]; rfl, by rw [HLO.out]; exact hown⟩, hcr⟩
      | false =>
        have hpe := hp.out
        simp only [putGo, Bool.false_eq_true, if_false] at hpe
        have HPE := hid hpe
        have hmk2 : m ≤ k := by simpa using hmk
        clear hp hpe hmk
        go_wp2_with (at_builtin; refine append_one (o := ⟨some 46, _, _, _, _, _⟩) rfl _ _ 22 rfl w.heap.size 3 (.int .i64 0) 8 Try.underlying22 infoI rfl X cx m _ rfl hown (.int .i64 x) rfl rfl ?_ ?_ ?_ ?_)
        · omega
        · omega
        · exact hwr
        intro X2 cx2 w5 hown5 hc5
        intros
        have hc5' : Chg Nothing w w5 := hcr.then hc5 (fun k hk h => by have := own_of hown k h; omega)
        clear hown hc5
        go_wp2
        go_ret
        have hl : (putGo x xs false).length = m + 1 := by rw [HPE.out, List.length_append, HLO.out]; rfl
        exact ⟨⟨X2, cx2, by rw [hl]; rfl, by rw [hl, HPE.out]; simpa using hown5⟩, hc5'⟩

/-! ### The reference's Shift and Below -/
def mapIf (p : Int → Bool) (f : Int → Int) (xs : List Int) : List Int := (xs.filter p).map f
theorem mapIf_snoc (p : Int → Bool) (f : Int → Int) (xs : List Int) (y : Int) : mapIf p f (xs ++ [y]) = mapIf p f xs ++ (if p y = true then [f y] else []) := by
  unfold mapIf; rw [List.filter_append, List.map_append]; congr 1; by_cases h : p y = true <;> simp [h]

def MIInv (w : World) (p : Int → Bool) (f : Int → Int) (xs : List Int) (n : Nat) (v i : Value) (wr : World) : Prop :=
  ∃ (k : Nat) (X : Option Addr) (cx : Nat) (m : Nat), k ≤ n ∧ m ≤ k ∧ i = .int .i64 k ∧ v = .slice X m cx ∧ Hid ((mapIf p f (xs.take k)).length = m) ∧ wr.ownsRow w.heap.size 3 1 (.slice X m cx) m ((mapIf p f (xs.take k)).map (Value.int .i64)) ∧ Chg Nothing w wr

def shiftR (l : List Int) (n : Int) : List Int := if rightB (-1) l && decide (0 ≤ n) then mapIf (fun z => decide (n ≤ z)) (fun z => z - n) l else []
theorem shiftR_eq (l : List Int) (n : Int) : shiftR l n = shiftL l n := by
  unfold shiftR shiftL mapIf keptL
  by_cases hn : n < 0
  · have : ¬ 0 ≤ n := by omega
    simp [hn, this]
  · have : 0 ≤ n := by omega
    cases rightB (-1) l <;> simp [hn, this]
def belowR (l : List Int) (n : Int) : List Int := if rightB (-1) l then mapIf (fun z => decide (z < n)) id l else []
theorem belowR_eq (l : List Int) (n : Int) : belowR l n = belowL l n := by
  unfold belowR belowL mapIf keptL; simp

set_option maxHeartbeats 1000000 in
theorem refShift_any (F : Nat → Prop) (A : Option Addr) (n c : Nat) (xs : List Int) (x : Int) (w : World) (h : IntsAt F w A n c xs) (hb : n * 8 ≤ 140737488351232) (hx : x ≤ 9223372036854775807) (hxs : ∀ z ∈ xs, z ≤ 9223372036854775807) :
    Calls Try.prog 28 #[.slice A n c, .int .i64 x] w fun e w' => GivesInts w.heap.size w' e (shiftR xs x) ∧ Chg Nothing w w' := by
  have hln := hid h.2.2.2.1
  have hn := h.2.1
  have hc := h.2.2.1
  have H := hid h; clear h
  have h1 := refRight_any F A n c xs w H.out
  unfold shiftR
  have HX := hid hxs; clear hxs
  by_cases hr : rightB (-1) xs = true
  · rw [hr] at h1 ⊢
    have H1 := hid h1; clear h1
    by_cases hx0 : 0 ≤ x
    · rw [show (true && decide (0 ≤ x)) = true from by simp [hx0]]
      simp only [if_true]
      have hnn := hid (rightB_lt hr)
      clear hr
      have hdx : decide (x < 0) = false := decide_eq_false (by omega)
      go_enter Try.func28, Try.ntmps28
      go_wp2_with fail
      refine H1.out.mono ?_
      rintro e w' ⟨rfl, q, rfl⟩
      go_wp2_with fail
      go_loopw [5, 6] (fun v i wr => MIInv w (fun z => decide (x ≤ z)) (fun z => z - x) xs n v i wr) (fun _ i _ => n - (intOf i).toNat)
      case atStart => exact ⟨0, none, 0, 0, Nat.zero_le _, Nat.le_refl _, rfl, rfl, hid rfl, World.ownsRow_nil _ _ _ _, (Chg.refl _ _).drewN _⟩
      case round =>
        obtain ⟨k, X, cx, p, hk, hpk, rfl, rfl, hp, hown, hcr⟩ := hrel
        have hwr := hcr.size
        by_cases hlt : k < n
        · obtain ⟨g, o, rfl, _, hgs, hcell⟩ := (H.out.chg hcr (fun _ _ _ h => h)).at_ hlt
          have hmem : xs.getD k 0 ∈ xs := by rw [show xs.getD k 0 = xs[k]'(by rw [hln.out]; exact hlt) from by simp [hln.out, hlt]]; exact List.getElem_mem _
          have hb1 := HX.out _ hmem
          have hb2 := hnn.out _ hmem
          have hsn := mapIf_snoc (fun z => decide (x ≤ z)) (fun z => z - x) (xs.take k) (xs.getD k 0)
          rw [← take_succ' (d := (0 : Int)) (xs := xs) (k := k) (by rw [hln.out]; exact hlt)] at hsn
          have HSN := hid hsn; clear hsn hmem
          generalize hy : xs.getD k 0 = y at *
          clear hy
          by_cases hxy : x ≤ y
          · go_wp2_with (at_builtin; refine append_one rfl _ _ 22 rfl w.heap.size 3 (.int .i64 0) 8 Try.underlying22 infoI rfl X cx p _ rfl hown (.int .i64 (y - x)) rfl rfl ?_ ?_ ?_ ?_)
            any_goals (first | omega | exact hwr)
            intro X' cx' w4 hown4 hc4
            intros
            have hcr4 := hcr.then hc4 (fun k hk h => by have := own_of hown k h; omega)
            clear hown hc4
            go_wp2
            go_roundw
            case rel => exact ⟨k + 1, X', cx', p + 1, by omega, by omega, by go_num, rfl, hid (by rw [HSN.out]; simp [hxy, hp.out]), by rw [HSN.out]; simpa [hxy] using hown4, hcr4⟩
            case measure => simp [intOf]; omega
          · go_wp2
            go_roundw
            case rel => exact ⟨k + 1, X, cx, p, by omega, by omega, by go_num, rfl, hid (by rw [HSN.out]; simp [hxy, hp.out]), by rw [HSN.out]; simpa [hxy] using hown, hcr⟩
            case measure => simp [intOf]; omega
        · have htk : xs.take k = xs := List.take_of_length_le (by rw [hln.out]; omega)
          rw [htk] at hp hown
          clear htk
          go_wp2
          go_ret
          exact ⟨⟨X, cx, by rw [hp.out]; rfl, by rw [hp.out]; exact hown⟩, hcr⟩
    · rw [show (true && decide (0 ≤ x)) = false from by simp; omega]
      have hdx : decide (x < 0) = true := decide_eq_true (by omega)
      clear hr
      go_enter Try.func28, Try.ntmps28
      go_wp2_with fail
      refine H1.out.mono ?_
      rintro e w' ⟨rfl, q, rfl⟩
      go_wp2_with fail
      go_ret
      exact ⟨GivesInts.nil _ _, (Chg.refl _ _).drewN _⟩
  · have hrf : rightB (-1) xs = false := by simpa using hr
    rw [hrf] at h1 ⊢
    have H1 := hid h1; clear h1
    clear hr hrf
    go_enter Try.func28, Try.ntmps28
    go_wp2_with fail
    refine H1.out.mono ?_
    rintro e w' ⟨rfl, q, rfl⟩
    go_wp2_with fail
    go_ret
    exact ⟨GivesInts.nil _ _, (Chg.refl _ _).drewN _⟩

set_option maxHeartbeats 1000000 in
theorem refBelow_any (F : Nat → Prop) (A : Option Addr) (n c : Nat) (xs : List Int) (x : Int) (w : World) (h : IntsAt F w A n c xs) (hb : n * 8 ≤ 140737488351232) :
    Calls Try.prog 29 #[.slice A n c, .int .i64 x] w fun e w' => GivesInts w.heap.size w' e (belowR xs x) ∧ Chg Nothing w w' := by
  have hln := hid h.2.2.2.1
  have hn := h.2.1
  have hc := h.2.2.1
  have H := hid h; clear h
  have h1 := refRight_any F A n c xs w H.out
  unfold belowR
  by_cases hr : rightB (-1) xs = true
  · rw [hr] at h1 ⊢
    simp only [if_true]
    have H1 := hid h1; clear h1
    clear hr
    go_enter Try.func29, Try.ntmps29
    go_wp2_with fail
    refine H1.out.mono ?_
    rintro e w' ⟨rfl, q, rfl⟩
    go_wp2_with fail
    go_loopw [5, 6] (fun v i wr => MIInv w (fun z => decide (z < x)) id xs n v i wr) (fun _ i _ => n - (intOf i).toNat)
    case atStart => exact ⟨0, none, 0, 0, Nat.zero_le _, Nat.le_refl _, rfl, rfl, hid rfl, World.ownsRow_nil _ _ _ _, (Chg.refl _ _).drewN _⟩
    case round =>
      obtain ⟨k, X, cx, p, hk, hpk, rfl, rfl, hp, hown, hcr⟩ := hrel
      have hwr := hcr.size
      by_cases hlt : k < n
      · obtain ⟨g, o, rfl, _, hgs, hcell⟩ := (H.out.chg hcr (fun _ _ _ h => h)).at_ hlt
        have hsn := mapIf_snoc (fun z => decide (z < x)) id (xs.take k) (xs.getD k 0)
        rw [← take_succ' (d := (0 : Int)) (xs := xs) (k := k) (by rw [hln.out]; exact hlt)] at hsn
        have HSN := hid hsn; clear hsn
        generalize hy : xs.getD k 0 = y at *
        clear hy
        by_cases hxy : y < x
        · go_wp2_with (at_builtin; refine append_one rfl _ _ 22 rfl w.heap.size 3 (.int .i64 0) 8 Try.underlying22 infoI rfl X cx p _ rfl hown (.int .i64 y) rfl rfl ?_ ?_ ?_ ?_)
          any_goals (first | omega | exact hwr)
          intro X' cx' w4 hown4 hc4
          intros
          have hcr4 := hcr.then hc4 (fun k hk h => by have := own_of hown k h; omega)
          clear hown hc4
          go_wp2
          go_roundw
          case rel => exact ⟨k + 1, X', cx', p + 1, by omega, by omega, by go_num, rfl, hid (by rw [HSN.out]; simp [hxy, hp.out]), by rw [HSN.out]; simpa [hxy] using hown4, hcr4⟩
          case measure => simp [intOf]; omega
        · go_wp2
          go_roundw
          case rel => exact ⟨k + 1, X, cx, p, by omega, by omega, by go_num, rfl, hid (by rw [HSN.out]; simp [hxy, hp.out]), by rw [HSN.out]; simpa [hxy] using hown, hcr⟩
          case measure => simp [intOf]; omega
      · have htk : xs.take k = xs := List.take_of_length_le (by rw [hln.out]; omega)
        rw [htk] at hp hown
        clear htk
        go_wp2
        go_ret
        exact ⟨⟨X, cx, by rw [hp.out]; rfl, by rw [hp.out]; exact hown⟩, hcr⟩
  · have hrf : rightB (-1) xs = false := by simpa using hr
    rw [hrf] at h1 ⊢
    have H1 := hid h1; clear h1
    clear hr hrf
    go_enter Try.func29, Try.ntmps29
    go_wp2_with fail
    refine H1.out.mono ?_
    rintro e w' ⟨rfl, q, rfl⟩
    go_wp2_with fail
    go_ret
    exact ⟨GivesInts.nil _ _, (Chg.refl _ _).drewN _⟩
end Go.Proofs.Ytemfmdhgalmgnaa
