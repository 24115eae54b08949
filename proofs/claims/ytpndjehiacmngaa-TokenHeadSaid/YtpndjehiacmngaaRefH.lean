/- Layer 6 as the document has it: Runs. -/
import Derived.Test.YtpndjehiacmngaaRefG
namespace Go.Proofs.Ytpndjehiacmngaa
open Go.RowKit
set_option linter.unusedVariables false

/-- A cell of a row of one's own, of elements of any number of cells. -/
theorem own_cell {w : World} {base : Nat} {e : TypeId} {sz n c : Nat} {A : Option Addr} {vs : List Value} (h : w.ownsRow base e sz (.slice A n c) n vs) {k : Nat} (hk : k < n * sz) (d : Value) :
    ∃ g, A = some ⟨g, 0, none⟩ ∧ base ≤ g ∧ g < w.heap.size ∧ w.cell? ⟨g, k, none⟩ = some (vs.getD k d) ∧ w.frozen? ⟨g, k, none⟩ = false ∧ ∀ u, (w.setCell ⟨g, k, none⟩ u).ownsRow base e sz (.slice A n c) n (vs.set k u) := by
  have hl := h.1
  rcases h.2 with ⟨e1, h0⟩ | ⟨g, cap, cur, e1, hb, hg, hnc, hcm, hsz, hcur⟩
  · subst h0; simp at hk
  · injection e1 with e1 e2 e3
    subst e1 e3
    have hB : Blk w g cur e := hg
    have hv : cur[k]? = some (vs.getD k d) := by
      have h2 : (cur.toList.take (n * sz))[k]? = vs[k]? := by rw [hcur]
      rw [List.getElem?_take, if_pos hk] at h2
      rw [← Array.getElem?_toList, h2]
      have hk' : k < vs.length := by omega
      simp [hk']
    refine ⟨g, rfl, hb, hB.lt, hB.cell k hv, hB.free k, fun u => ⟨by simpa using hl, .inr ⟨g, c, cur.setIfInBounds k u, rfl, hb, hB.set k u, hnc, hcm, by simpa using hsz, ?_⟩⟩⟩
    rw [Array.toList_setIfInBounds, List.take_set, hcur]
theorem runs_ne (x : Cls) (k : Nat) (hk : 0 < k) (h : x.getLsbD (k - 1) = true) : ∃ l f t, runsTo x k = l ++ [(f, t)] := by
  obtain ⟨m, rfl⟩ : ∃ m, k = m + 1 := ⟨k - 1, by omega⟩
  rw [runsTo_succ]; unfold runsStep
  rw [Nat.add_sub_cancel] at h
  rw [if_pos h]
  split
  · exact ⟨_, _, _, rfl⟩
  · exact ⟨_, _, _, rfl⟩
theorem runs_set (l : List (Nat × Nat)) (f t k : Nat) : ((l ++ [(f, t)]).flatMap encR).set (l.length * 2 + 1) (.int .u8 k) = (l ++ [(f, k)]).flatMap encR := by
  have h := encR_len l
  rw [List.flatMap_append, List.flatMap_append, List.set_append_right _ _ (by omega), h]
  have : l.length * 2 + 1 - l.length * 2 = 1 := by omega
  rw [this]; rfl

def RuInv (x : Cls) (w : World) (b2 : Nat) (A : Option Addr) (c : Nat) (s i : Value) (wr : World) : Prop :=
  ∃ (k n : Nat) (B : Option Addr) (d : Nat), (k : Int) ≤ 256 ∧ n ≤ k ∧ i = .int .i64 k ∧ s = .slice B n d ∧ Hid ((runsTo x k).length = n) ∧ wr.ownsRow b2 66 2 (.slice B n d) n ((runsTo x k).flatMap encR) ∧ PRow wr (w.heap.size + 1) A c x.getLsbD ∧ Chg Nothing w wr ∧ b2 ≤ wr.heap.size

set_option maxRecDepth 20000 in
set_option maxHeartbeats 2000000 in
theorem refRuns_any (x : Cls) (w : World) :
    Calls Try.prog 31 #[encC x] w fun e w' => ∃ A n c, e = .returned (.slice A n c) ∧ (runsC x).length = n ∧ w'.ownsRow w.heap.size 66 2 (.slice A n c) n ((runsC x).flatMap encR) ∧ Chg Nothing w w' := by
  unfold encC
  go_enter Try.func31, Try.ntmps31
  go_wp2_with fail
  refine (refBytes_any x _).mono ?_
  rintro e w1 ⟨A, c, rfl, hrow, hc⟩
  have hcr := ((Chg.refl Nothing w).alloc _).trans hc
  have HR := hid (show PRow w1 (w.heap.size + 1) A c x.getLsbD from by have := hrow; simp only [World.size_alloc] at this; exact this)
  clear hrow hc
  have hw1 := hcr.size
  have hof := hid (fun k hk => own_of HR.out k hk)
  go_wp2_with fail
  go_loopw [3, 5] (fun s i wr => RuInv x w w1.heap.size A c s i wr) (fun _ i _ => 256 - (intOf i).toNat)
  case atStart => exact ⟨0, 0, none, 0, by omega, by omega, rfl, rfl, hid rfl, World.ownsRow_nil _ _ _ _, HR.out, hcr, Nat.le_refl _⟩
  case round =>
    clear HR hcr
    obtain ⟨k, n, B, d, hk, hnk, rfl, rfl, hn, hown, hR, hcr, hwr⟩ := hrel
    have HR := hid hR; clear hR
    have HO := hid hown; clear hown
    have hlg : (k : Int) < 256 ∨ 256 ≤ (k : Int) := by omega
    rcases hlg with hlt | hge
    · obtain ⟨g, hA, hg1, hg2, hcell, hfr, hput⟩ := HR.out.at_ (show k < 256 by omega)
      subst hA
      clear hput
      have hss := hid (runsTo_succ x k)
      cases hv : x.getLsbD k with
      | false =>
        rw [hv] at hcell
        have hskip := hid (runsTo_skip x k hv)
        clear hv
        go_wp2
        go_roundw
        case rel => exact ⟨k + 1, n, B, d, by omega, by omega, by go_num, rfl, hid (by rw [hskip.out]; exact hn.out), by rw [hskip.out]; exact HO.out, HR.out, hcr, hwr⟩
        case measure => simp [intOf]; omega
      | true =>
        rw [hv] at hcell
        have hvv := hid hv
        clear hv
        by_cases hprev : 0 < k ∧ x.getLsbD (k - 1) = true
        · obtain ⟨l, f, t, hl⟩ := runs_ne x k hprev.1 hprev.2
          have hnew := hid (show runsTo x (k + 1) = l ++ [(f, k)] from by rw [hss.out]; unfold runsStep; rw [if_pos hvv.out, if_pos hprev, hl]; simp)
          have hnl : n = l.length + 1 := by rw [← hn.out, hl]; simp
          subst hnl
          obtain ⟨g', hA, _, _, hcell', hfr', hput⟩ := HR.out.at_ (show k - 1 < 256 by omega)
          injection hA with hA; injection hA with hA
          subst hA
          clear hput
          rw [hprev.2] at hcell'
          have hkm : (k : Int) - 1 = ((k - 1 : Nat) : Int) := by omega
          have hkp := hprev.1
          clear hprev
          have hown1 := HO.out
          rw [hl] at hown1
          obtain ⟨g2, hB2, hg21, hg22, hcell2, hfr2, hput2⟩ := own_cell hown1 (k := l.length * 2 + 1) (by omega) (.int .u8 0)
          subst hB2
          have HP := hid (hput2 (.int .u8 k)); clear hput2 hown1
          obtain ⟨v0, hv0⟩ : ∃ v, wr.cell? ⟨g2, l.length * 2 + 1, none⟩ = some v := ⟨_, hcell2⟩
          clear hcell2
          rw [runs_set, ← hnew.out] at HP
          have hgg : g ≠ g2 := by have := hof.out g ⟨_, rfl, rfl⟩; omega
          go_wp2
          go_roundw
          case rel => exact ⟨k + 1, l.length + 1, some ⟨g2, 0, none⟩, d, by omega, by omega, by go_num, rfl, hid (by rw [hnew.out]; simp), HP.out, HR.out.chg (S := One g2) ((Chg.refl _ _).setOne _ _) (fun j hj e => by have := hof.out j hj; unfold One at e; omega), hcr.setNew (by omega) _ _, by simpa using hwr⟩
          case measure => simp [intOf]; omega
        · have hnew := hid (show runsTo x (k + 1) = runsTo x k ++ [(k, k)] from by rw [hss.out]; unfold runsStep; rw [if_pos hvv.out, if_neg hprev])
          rcases Nat.eq_zero_or_pos k with hk0 | hkp
          · clear hprev
            subst hk0
            go_wp2_with (at_builtin; (refine append_cells rfl _ _ 64 rfl w1.heap.size 66 (.agg #[.int .u8 0, .int .u8 0]) 2 2 Try.underlying64 info2 rfl (by decide) B d n _ rfl HO.out [.int .u8 0, .int .u8 0] rfl rfl (by intro u hu; simp at hu; subst hu; rfl) ?_ ?_ ?_ ?_))
            any_goals omega
            intro A' c' w6 hown6 hc6 hA
            have hown7 := hid (show w6.ownsRow w1.heap.size 66 2 (.slice A' (n + 1) c') (n + 1) ((runsTo x (0 + 1)).flatMap encR) from by
              rw [hnew.out, List.flatMap_append]; exact hown6)
            have oa := hid (own_of HO.out)
            clear hA
            go_wp2
            go_roundw
            case rel => exact ⟨0 + 1, n + 1, A', c', by omega, by omega, by go_num, rfl, hid (by rw [hnew.out, List.length_append, hn.out]; rfl), hown7.out, HR.out.chg hc6 (fun j h1 h2 => by have := oa.out _ h2; have := hof.out _ h1; omega), hcr.then hc6 (fun i hi h => by have := oa.out _ h; omega), by have := hc6.size; omega⟩
            case measure => simp [intOf]
          · have hpf : x.getLsbD (k - 1) = false := by
              cases h : x.getLsbD (k - 1) with
              | false => rfl
              | true => exact absurd ⟨hkp, h⟩ hprev
            obtain ⟨g', hA, _, _, hcell', hfr', hput⟩ := HR.out.at_ (show k - 1 < 256 by omega)
            injection hA with hA; injection hA with hA
            subst hA
            clear hput
            rw [hpf] at hcell'
            have hkm : (k : Int) - 1 = ((k - 1 : Nat) : Int) := by omega
            clear hprev hpf
            go_wp2_with (at_builtin; (refine append_cells rfl _ _ 64 rfl w1.heap.size 66 (.agg #[.int .u8 0, .int .u8 0]) 2 2 Try.underlying64 info2 rfl (by decide) B d n _ rfl HO.out [.int .u8 k, .int .u8 k] rfl rfl (by intro u hu; simp at hu; subst hu; rfl) ?_ ?_ ?_ ?_))
            any_goals omega
            intro A' c' w6 hown6 hc6 hA
            have hown7 := hid (show w6.ownsRow w1.heap.size 66 2 (.slice A' (n + 1) c') (n + 1) ((runsTo x (k + 1)).flatMap encR) from by
              rw [hnew.out, List.flatMap_append]; exact hown6)
            have oa := hid (own_of HO.out)
            clear hA
            go_wp2
            go_roundw
            case rel => exact ⟨k + 1, n + 1, A', c', by omega, by omega, by go_num, rfl, hid (by rw [hnew.out, List.length_append, hn.out]; rfl), hown7.out, HR.out.chg hc6 (fun j h1 h2 => by have := oa.out _ h2; have := hof.out _ h1; omega), hcr.then hc6 (fun i hi h => by have := oa.out _ h; omega), by have := hc6.size; omega⟩
            case measure => simp [intOf]; omega
    · have hk256 : k = 256 := by omega
      have E1 := hid (show runsTo x k = runsC x from by rw [hk256]; rfl)
      have hd : decide ((k : Int) < 256) = false := decide_eq_false (by omega)
      clear hge hk hk256
      go_wp2
      go_ret
      rw [E1.out] at hn
      have ho := HO.out
      rw [E1.out] at ho
      exact ⟨B, n, d, rfl, hn.out, own_base_less ho (by omega), hcr⟩
end Go.Proofs.Ytpndjehiacmngaa
