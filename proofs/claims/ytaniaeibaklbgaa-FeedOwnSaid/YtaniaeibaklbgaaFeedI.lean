import Derived.Test.YtaniaeibaklbgaaFeedE
import Derived.Test.YtaniaeibaklbgaaFeedF
namespace Go.Proofs.Ytaniaeibaklbgaa
open Go.RowKit
set_option linter.unusedVariables false

/-- A slice of the call's own, that may be written. -/
def MyRow (w : World) (b : Nat) (A : Option Addr) (n : Nat) (lo hi : Nat) : Prop := 0 < n → ∃ g cur, A = some ⟨g, 0, none⟩ ∧ lo ≤ g ∧ g < hi ∧ Blk w g cur 3 ∧ n ≤ cur.size
theorem MyRow.chg {S : Nat → Prop} {w w' : World} {b : Nat} {A : Option Addr} {n lo hi : Nat} (h : MyRow w b A n lo hi) (hc : Chg S w w') (hS : ∀ k, lo ≤ k → k < hi → ¬ S k) : MyRow w' b A n lo hi := fun hn => by
  obtain ⟨g, cur, e, h1, h2, hB, h3⟩ := h hn
  exact ⟨g, cur, e, h1, h2, hB.chg hc (hS g h1 h2), h3⟩
theorem MyRow.of_own {w : World} {b : Nat} {base : Nat} {v : Value} {n : Nat} {xs : List Value} (h : w.ownsRow base 3 1 v n xs) : ∃ A c, v = .slice A n c ∧ MyRow w b A n base w.heap.size := by
  rcases h.2 with ⟨rfl, h0⟩ | ⟨g, cap, cur, rfl, hb, hg, hnc, hcm, hsz, hcur⟩
  · subst h0; exact ⟨none, 0, rfl, fun h => absurd h (by omega)⟩
  · exact ⟨_, cap, rfl, fun _ => ⟨g, cur, rfl, hb, lt_of_block hg, hg, by omega⟩⟩

def FO1Inv (w : World) (b lo m : Nat) (f0 : Fd) (A : Option Addr) (n : Nat) (i : Value) (wr : World) : Prop :=
  ∃ k, k ≤ n ∧ i = .int .i64 (k : Nat) ∧ FeedAt (fun k => m ≤ k ∧ k < b) wr b f0 ∧ MyRow wr b A n lo m ∧ Chg Nothing w wr

theorem ownsNew {w : World} {n : Nat} {v : Value} {xs : List Value} (h : w.ownsRow n 3 1 v xs.length xs) : w.ownsRow n 3 1 v xs.length xs := h

set_option maxHeartbeats 4000000 in
theorem FeedOwn_walk (t : ByteArray) (A : Option Addr) (n c : Nat) (ps : List Int) (w : World) (ht : t.size ≤ 140737488351232) (hI : IntsAt (fun k => k < w.heap.size) w A n c ps) (hn : n * 8 ≤ 140737488351232) (_hps : ∀ x ∈ ps, -9223372036854775808 ≤ x ∧ x ≤ 9223372036854775807) :
    Calls Try.prog 5 #[.string t, .slice A n c] w fun e w' => e = .returned (.bool true) ∧ Chg Nothing w w' := by
  have hln := hI.2.2.2.1
  by_cases hfew : (t.size : Int) ≤ 500 ∧ (n : Int) ≤ 500
  · obtain ⟨hf1, hf2⟩ := hfew
    have HI := hid hI; clear hI
    have HLN := hid hln; clear hln
    have h500 : n ≤ 500 := by omega
    have h501 : t.size ≤ 500 := by omega
    have hI1 := HI.out.chg ((Chg.refl Nothing w).alloc (.cells #[] 3)) (fun _ _ _ h => h)
    go_enter Try.func5, Try.ntmps5
    go_wp2_with (first
      | (go_at_call 16; refine (fewF_yes t A n c _ hf1 (by omega)).mono ?_; rintro e w2 ⟨rfl, rfl⟩)
      | (at_builtin; refine append_gen rfl _ _ 22 rfl w.heap.size 3 (.int .i64 0) 1 8 Try.underlying22 infoInt rfl (by decide) _ 0 0 [] rfl (World.ownsRow_made w #[] 0 (Nat.le_refl _) (by unfold maxLen; omega) rfl) A n c (ps.map (Value.int .i64)) rfl ?h1 ?h2 ?h3 ?h4 (nums_one _ _) ?h5 ?h6 ?h7 ?_))
    case h1 => rw [List.length_map, HLN.out]; omega
    case h2 => exact HI.out.1
    case h3 => exact HI.out.2.1
    case h4 => exact hI1.cells'
    case h5 => unfold maxLen; omega
    case h6 => omega
    case h7 => rw [World.size_alloc]; exact Nat.le_succ _
    clear hf1 hf2
    intro A' c' w1 hown hc1
    intros
    have hc01 : Chg Nothing w w1 := ((Chg.refl Nothing w).alloc (.cells #[] 3)).then hc1 (fun k hk ⟨a, e, hk'⟩ => by injection e with e; subst e; simp only at hk'; omega)
    obtain ⟨A2, c2, e2, hmy⟩ := MyRow.of_own (b := 0) hown
    injection e2 with e2 e3 e4
    subst e2 e4
    have hI2 : IntsAt _ w1 A' n c' ps := ElsAt.of_own (by simpa using hown)
    clear hI1 hown e3
    have hmy' : MyRow w1 0 A' n w.heap.size w1.heap.size := by simpa using hmy
    clear hmy
    go_wp2_with fail
    refine (new_any _ t A' n c' ps (-1) w1 (by omega) hI2 hn).mono ?_
    rintro e w2 ⟨b, rfl, hb1, hb2, hfd, hc2⟩
    rw [new_ends (by omega)] at hfd
    have HG := hid (show Fd.good ⟨t, ps, 0, t.size, 1⟩ from ⟨⟨Nat.zero_le _, Nat.le_refl _, by simp only; omega⟩, .inl rfl⟩)
    obtain ⟨f0, he0⟩ : ∃ f, f = Fd.mk t ps 0 t.size 1 := ⟨_, rfl⟩
    rw [← he0] at hfd HG
    have HE0 := hid he0; clear he0
    have hmy2 := hmy'.chg hc2 (fun _ _ _ h => h)
    have hc02 := hc01.trans hc2
    have hsz1 := hc01.size
    clear hmy' hI2
    go_wp2_with fail
    go_loopw [29] (fun i wr => FO1Inv w b w.heap.size w1.heap.size f0 A' n i wr) (fun i _ => n - (intOf i).toNat)
    case atStart => exact ⟨0, Nat.zero_le _, rfl, hfd, hmy2, hc02⟩
    case round =>
      obtain ⟨k, hk, rfl, hfd', hmyr, hcr⟩ := hrel
      by_cases hlt : k < n
      · obtain ⟨g, cur, rfl, hg1, hg2, hB, hcs⟩ := hmyr (by omega)
        have hcell := hB.cell k (v := cur[k]'(by omega)) (by simp)
        have hfree := hB.free k
        have HB := hid hB; clear hB
        generalize cur[k]'_ = vk at hcell
        go_wp2_with fail
        go_roundw
        case rel =>
          have hst := (Chg.refl (One g) wr).setOne k (.int .i64 1099511627776)
          refine ⟨k + 1, by omega, by go_num, hfd'.chg hst (by unfold One; omega) (fun k hk h e => by unfold One at e; omega), fun _ => ⟨g, _, rfl, hg1, hg2, HB.out.set k _, by simp; omega⟩, hcr.then hst (fun k hk e => by unfold One at e; omega)⟩
        case measure => simp [intOf]; omega
      · clear hmyr
        have HFD := hid hfd'; clear hfd'
        have hwr := hcr.size
        have hbw := HFD.out.lt
        go_wp2_with fail
        refine (refNew_any t A n c (-1) wr).mono ?_
        rintro e w4 ⟨rfl, hc4⟩
        rw [new_ends (by omega)]
        have hfd4 := HFD.out.chg hc4 id (fun _ _ _ h => h)
        have hcr4 := hcr.trans hc4
        have hw4 := hc4.size
        unfold rfAgg
        clear hc4 hcr HFD
        go_wp2_with fail
        go_loopw [42] (fun i wr => FRInv w b w4.heap.size (fun k => w1.heap.size ≤ k ∧ k < b) f0 (n + 2) i wr) (fun i _ => n + 2 - (intOf i).toNat)
        case atStart =>
          refine ⟨0, f0, A, n, c, Nat.zero_le _, rfl, HG.out, rfl, rfl, hfd4.chg ((Chg.refl Nothing _).alloc _) id (fun _ _ _ h => h), ?_, ?_, hcr4.alloc _⟩
          · rw [HE0.out, show Fd.T ⟨t, ps, 0, t.size, 1⟩ = t from by unfold Fd.T; simp]; exact Blk.new _ _ _
          · rw [HE0.out]; exact HI.out.chg (hcr4.alloc _) (fun _ _ _ h => h)
        case round =>
          obtain ⟨k2, f, A2, n2, c2, hk2, rfl, hgood, hT, he, hfd', hblk, hI', hcr⟩ := hrel
          have HT := hid hT; clear hT
          have HE := hid he; clear he
          have hg1 := hid hgood; clear hgood
          have hbw := hblk.lt
          have hbb := hfd'.lt
          by_cases hlt2 : k2 < n + 2
          · have HB := hid hblk
            clear hblk
            go_wp2_with fail
            refine (read_any _ b f _ hfd').mono ?_
            rintro e w5 ⟨rfl, hfd3, hc3⟩
            have HB3 := HB.out.chg hc3 (by unfold One; omega)
            have hI3 := hI'.chg hc3 (fun k hk h e => by unfold One at e; omega)
            have hcr3 := hcr.then hc3 (fun k hk e => by unfold One at e; omega)
            have hs3 := hc3.size
            clear hfd' HB hI' hcr hc3
            have r0 := HB3.cell 0 (v := .string f0.T) rfl
            have r1 := HB3.cell 1 (v := .bool (f0.e == 2)) rfl
            have r2 := HB3.cell 2 (v := .slice A2 n2 c2) rfl
            have r3 := HB3.cell 3 (v := .int .i64 f.p) rfl
            have HB3' := hid HB3; clear HB3
            go_wp2_with fail
            refine (refRead_f' _ f f0 A2 n2 c2 _ hg1.out HT.out HE.out hI3).mono ?_
            rintro e w6 ⟨A4, n4, c4, rfl, hI4, hc4⟩
            have HB4 := HB3'.out.chg hc4 id
            have hfd4 := hfd3.chg hc4 id (fun _ _ _ h => h)
            have hcr4 := hcr3.trans hc4
            have hs4 := hc4.size
            clear HB3' hfd3 hcr3 hc4 hI3 r0 r1 r2 r3
            have f0' := HB4.free 0
            have f1' := HB4.free 1
            have f2' := HB4.free 2
            have f3' := HB4.free 3
            have r0 := HB4.cell 0 (v := .string f0.T) rfl
            have r1 := HB4.cell 1 (v := .bool (f0.e == 2)) rfl
            have r2 := HB4.cell 2 (v := .slice A2 n2 c2) rfl
            have r3 := HB4.cell 3 (v := .int .i64 f.p) rfl
            have HB4' := hid HB4; clear HB4
            have hbr4 : w4.heap.size < w6.heap.size := by omega
            go_wp2_with fail
            have hcS := (((((Chg.refl (One w4.heap.size) w6).setOne 0 (.string f0.T)).setOne 1 (.bool (f0.e == 2))).setOne 2 (.slice A4 n4 c4)).setOne 3 (.int .i64 f.next.p)).alloc (.cells #[.string f0.T, .bool (f0.e == 2), .slice A4 n4 c4, .int .i64 f.next.p] 28)
            go_roundw
            case rel => exact ⟨k2 + 1, f.next, A4, n4, c4, by omega, by go_num, f.next_good hg1.out, f.next_T.trans HT.out, f.next_e.trans HE.out, hfd4.chg hcS (by unfold One; omega) (fun k hk h e => by unfold One at e; omega), ((((HB4'.out.set 0 _).set 1 _).set 2 _).set 3 _).alloc _, hI4.chg hcS (fun k hk h e => by unfold One at e; omega), hcr4.then hcS (fun k hk e => by unfold One at e; omega)⟩
            case measure => simp [intOf]; omega
          · clear hblk
            go_wp2_with fail
            refine (aliveF _).mono ?_
            rintro e w7 ⟨rfl, hc7⟩
            go_wp2_with fail
            go_ret
            exact ⟨rfl, hcr.trans hc7⟩
  · have HF := hid hfew; clear hfew
    go_enter Try.func5, Try.ntmps5
    go_wp2_with (first | (go_at_call 16; refine (fewF_no t A n c _ HF.out).mono ?_; rintro e w2 ⟨rfl, rfl⟩) | (go_at_call 17; refine (aliveF _).mono ?_; rintro e w3 ⟨rfl, hc3⟩))
    go_ret
    exact ⟨rfl, hc3⟩
end Go.Proofs.Ytaniaeibaklbgaa
