import Derived.Test.YtaniaeibaklbgaaFeedF
namespace Go.Proofs.Ytaniaeibaklbgaa
open Go.RowKit
set_option linter.unusedVariables false

def gots (f : Fd) (m : Nat) : List ByteArray := (List.range m).map fun j => (f.after j).got
theorem gots_succ (f : Fd) (m : Nat) : gots f (m + 1) = gots f m ++ [(f.after m).got] := by simp [gots, List.range_succ]
theorem gots_len (f : Fd) (m : Nat) : (gots f m).length = m := by simp [gots]
theorem gots_get (f : Fd) (m j : Nat) (h : j < m) : (gots f m).getD j ByteArray.empty = (f.after j).got := by simp [gots, h]
theorem infoStr : (Try.prog.info? 9).map (fun i => (i.zero, i.size, i.bytes)) = some (some (.string ⟨#[]⟩), 1, 16) := by kernel_rfl

structure FAS (w : World) (B a b m : Nat) (f : Fd) (ka kb : Nat) (X : Option Addr) (cx : Nat) (Y : Option Addr) (cy : Nat) (wr : World) : Prop where
  fa : FeedAt (fun k => w.heap.size ≤ k ∧ k < a) wr a (f.after ka)
  fb : FeedAt (fun k => m ≤ k ∧ k < b) wr b (f.after kb)
  x : wr.ownsRow B 9 1 (.slice X ka cx) ka ((gots f ka).map Value.string)
  y : wr.ownsRow B 9 1 (.slice Y kb cy) kb ((gots f kb).map Value.string)
  xy : ∀ k, Of X k → ¬ Of Y k
  chg : Chg Nothing w wr
  sz : B ≤ wr.heap.size

def FAInv (w : World) (B a b m : Nat) (f : Fd) (N : Nat) (x y i : Value) (wr : World) : Prop :=
  ∃ k ka kb X cx Y cy, k ≤ N ∧ ka ≤ k ∧ kb ≤ k ∧ i = .int .i64 (k : Nat) ∧ x = .slice X ka cx ∧ y = .slice Y kb cy ∧ FAS w B a b m f ka kb X cx Y cy wr

theorem FAS.x_step {w : World} {B a b m : Nat} {f : Fd} {ka kb : Nat} {X : Option Addr} {cx : Nat} {Y : Option Addr} {cy : Nat} {wr w3 w4 : World} {X' : Option Addr} {cx' : Nat} (S : FAS w B a b m f ka kb X cx Y cy wr) (hwB : w.heap.size ≤ B) (hwa : w.heap.size ≤ a) (hab : a < b) (ham : a < m) (hbB : b < B) (hmB : m ≤ B)
    (hfa3 : FeedAt (fun k => w.heap.size ≤ k ∧ k < a) w3 a (f.after (ka + 1))) (hc3 : Chg (One a) wr w3) (hown : w4.ownsRow B 9 1 (.slice X' (ka + 1) cx') (ka + 1) ((gots f ka).map Value.string ++ [.string (f.after ka).got])) (hc4 : Chg (Of X) w3 w4) (hX : ∀ k, Of X' k → Of X k ∨ w3.heap.size ≤ k) :
    FAS w B a b m f (ka + 1) kb X' cx' Y cy w4 := by
  have ox := own_of S.x
  have oy := own_of S.y
  have hs := hc3.size
  refine ⟨hfa3.chg hc4 (fun h => by have := ox _ h; omega) (fun k _ h h' => by have := ox _ h'; omega), ?_, ?_, ?_, ?_, ?_, ?_⟩
  · exact (S.fb.chg hc3 (by unfold One; omega) (fun k _ h e => by unfold One at e; omega)).chg hc4 (fun h => by have := ox _ h; omega) (fun k _ h h' => by have := ox _ h'; omega)
  · rw [gots_succ, List.map_append]; exact hown
  · exact own_chg (own_chg S.y hc3 (fun k hk e => by have := oy k hk; unfold One at e; omega)) hc4 (fun k hk h => S.xy k h hk)
  · intro k hk hy
    rcases hX k hk with h | h
    · exact S.xy k h hy
    · have := oy k hy; omega
  · exact (S.chg.then hc3 (fun k hk e => by unfold One at e; omega)).then hc4 (fun k hk h => by have := ox _ h; omega)
  · have := S.sz; have := hc4.size; omega
theorem FAS.y_step {w : World} {B a b m : Nat} {f : Fd} {ka kb : Nat} {X : Option Addr} {cx : Nat} {Y : Option Addr} {cy : Nat} {wr w3 w4 : World} {Y' : Option Addr} {cy' : Nat} (S : FAS w B a b m f ka kb X cx Y cy wr) (hwB : w.heap.size ≤ B) (hwa : w.heap.size ≤ a) (hab : a < b) (ham : a < m) (hbB : b < B) (hmB : m ≤ B)
    (hfb3 : FeedAt (fun k => m ≤ k ∧ k < b) w3 b (f.after (kb + 1))) (hc3 : Chg (One b) wr w3) (hown : w4.ownsRow B 9 1 (.slice Y' (kb + 1) cy') (kb + 1) ((gots f kb).map Value.string ++ [.string (f.after kb).got])) (hc4 : Chg (Of Y) w3 w4) (hY : ∀ k, Of Y' k → Of Y k ∨ w3.heap.size ≤ k) :
    FAS w B a b m f ka (kb + 1) X cx Y' cy' w4 := by
  have ox := own_of S.x
  have oy := own_of S.y
  have hs := hc3.size
  refine ⟨?_, hfb3.chg hc4 (fun h => by have := oy _ h; omega) (fun k _ h h' => by have := oy _ h'; omega), ?_, ?_, ?_, ?_, ?_⟩
  · exact (S.fa.chg hc3 (by unfold One; omega) (fun k _ h e => by unfold One at e; omega)).chg hc4 (fun h => by have := oy _ h; omega) (fun k _ h h' => by have := oy _ h'; omega)
  · exact own_chg (own_chg S.x hc3 (fun k hk e => by have := ox k hk; unfold One at e; omega)) hc4 (fun k hk h => S.xy k hk h)
  · rw [gots_succ, List.map_append]; exact hown
  · intro k hk hy
    rcases hY k hy with h | h
    · exact S.xy k hk h
    · have := ox k hk; omega
  · exact (S.chg.then hc3 (fun k hk e => by unfold One at e; omega)).then hc4 (fun k hk h => by have := oy _ h; omega)
  · have := S.sz; have := hc4.size; omega

set_option maxHeartbeats 4000000 in
theorem FeedAgain_walk (t : ByteArray) (A : Option Addr) (n c : Nat) (ps : List Int) (T : Option Addr) (nt ct : Nat) (ts : List Bool) (w : World) (ht : t.size ≤ 140737488351232) (hI : IntsAt (fun k => k < w.heap.size) w A n c ps) (hn : n * 8 ≤ 140737488351232) (_hps : ∀ x ∈ ps, -9223372036854775808 ≤ x ∧ x ≤ 9223372036854775807) (hT : BoolsAt (fun k => k < w.heap.size) w T nt ct ts) (hnt : nt ≤ 140737488351232) :
    Calls Try.prog 8 #[.string t, .slice A n c, .slice T nt ct] w fun e w' => e = .returned (.bool true) ∧ Chg Nothing w w' := by
  by_cases hfew : (t.size : Int) ≤ 500 ∧ (n : Int) ≤ 500
  · obtain ⟨hf1, hf2⟩ := hfew
    by_cases ht5 : nt ≤ 500
    · have HI := hid hI; clear hI
      have HTT := hid hT; clear hT
      have h500 : n ≤ 500 := by omega
      have h501 : t.size ≤ 500 := by omega
      go_enter Try.func8, Try.ntmps8
      go_wp2_with (go_at_call 16; refine (fewF_yes t A n c _ hf1 (by omega)).mono ?_; rintro e w2 ⟨rfl, rfl⟩)
      clear hf1 hf2
      refine (new_any _ t A n c ps (-1) w (by omega) HI.out hn).mono ?_
      rintro e w1 ⟨a, rfl, ha1, ha2, hfa, hc1⟩
      go_wp2_with fail
      refine (new_any _ t A n c ps (-1) w1 (by omega) (HI.out.chg hc1 (fun _ _ _ h => h)) hn).mono ?_
      rintro e w2 ⟨b, rfl, hb1, hb2, hfb, hc2⟩
      have hfa := hfa.chg hc2 id (fun _ _ _ h => h)
      have hc02 := hc1.trans hc2
      have hg := hid (Fd.new_good t ps (-1) (by omega))
      generalize Fd.new t ps (-1) = f at *
      have hlt2 := hc2.size
      have hlt1 := hc02.size
      go_wp2_with fail
      go_loopw [9, 10, 42] (fun x y i wr => FAInv w w2.heap.size a b w1.heap.size f nt x y i wr) (fun _ _ i _ => nt - (intOf i).toNat)
      case atStart => exact ⟨0, 0, 0, none, 0, none, 0, Nat.zero_le _, Nat.le_refl _, Nat.le_refl _, rfl, rfl, rfl, hfa, hfb, World.ownsRow_nil _ _ _ _, World.ownsRow_nil _ _ _ _, (fun k ⟨_, e, _⟩ => by cases e), hc02, Nat.le_refl _⟩
      case round =>
        obtain ⟨k, ka, kb, X, cx, Y, cy, hk, hka, hkb, rfl, rfl, rfl, S⟩ := hrel
        by_cases hlt : k < nt
        · obtain ⟨g, o, rfl, hgw, hgs, hcell⟩ := (HTT.out.chg S.chg (fun _ _ _ h => h)).at_ hlt
          generalize ts.getD k false = first at *
          have hs0 := S.chg.size
          have hs00 := S.sz
          cases first with
          | true =>
            go_wp2_with fail
            refine (read_any _ a _ wr S.fa).mono ?_
            rintro e w3 ⟨rfl, hfa3, hc3⟩
            have hx3 := own_chg S.x hc3 (fun k hk e => by have := own_of S.x k hk; unfold One at e; omega)
            have hs3 := hc3.size
            go_wp2_with (at_builtin; refine append_one rfl _ _ 39 rfl w2.heap.size 9 (.string ⟨#[]⟩) 16 Try.underlying39 infoStr rfl X cx ka ((gots f ka).map Value.string) rfl hx3 (.string (f.after ka).got) rfl rfl ?h4 ?h5 ?h6 ?_)
            case h4 => omega
            case h5 => omega
            case h6 => omega
            intro X' cx' w4 hown hc4 hX
            have S' := S.x_step (by omega) (by omega) (by omega) (by omega) (by omega) (by omega) hfa3 hc3 hown hc4 hX
            clear hown hc4 hX hx3 hfa3 hc3 S
            go_wp2_with fail
            go_roundw
            case rel => exact ⟨k + 1, ka + 1, kb, X', cx', Y, cy, by omega, by omega, by omega, by go_num, rfl, rfl, S'⟩
            case measure => simp [intOf]; omega
          | false =>
            go_wp2_with fail
            refine (read_any _ b _ wr S.fb).mono ?_
            rintro e w3 ⟨rfl, hfb3, hc3⟩
            have hy3 := own_chg S.y hc3 (fun k hk e => by have := own_of S.y k hk; unfold One at e; omega)
            have hs3 := hc3.size
            go_wp2_with (at_builtin; refine append_one rfl _ _ 39 rfl w2.heap.size 9 (.string ⟨#[]⟩) 16 Try.underlying39 infoStr rfl Y cy kb ((gots f kb).map Value.string) rfl hy3 (.string (f.after kb).got) rfl rfl ?h4b ?h5b ?h6b ?_)
            case h4b => omega
            case h5b => omega
            case h6b => omega
            intro Y' cy' w4 hown hc4 hY
            have S' := S.y_step (by omega) (by omega) (by omega) (by omega) (by omega) (by omega) hfb3 hc3 hown hc4 hY
            clear hown hc4 hY hy3 hfb3 hc3 S
            go_wp2_with fail
            go_roundw
            case rel => exact ⟨k + 1, ka, kb + 1, X, cx, Y', cy', by omega, by omega, by omega, by go_num, rfl, rfl, S'⟩
            case measure => simp [intOf]; omega
        · have hX := ElsAt.of_own (d := ByteArray.empty) S.x
          have hY := ElsAt.of_own (d := ByteArray.empty) S.y
          have hcr := S.chg
          clear S
          have hle : ka ≤ kb ∨ kb < ka := by omega
          rcases hle with hle | hle
          · go_wp2_with fail
            go_loopw [71] (fun i wx => ∃ j q, j ≤ ka ∧ i = .int .i64 (j : Nat) ∧ wx = wr.drewN q) (fun i _ => ka - (intOf i).toNat)
            case atStart => exact ⟨0, 0, Nat.zero_le _, rfl, rfl⟩
            case round =>
              obtain ⟨j, q, hj, rfl, rfl⟩ := hrel
              by_cases hjl : j < ka
              · obtain ⟨gx, ox, rfl, _, _, hcx⟩ := hX.at_ hjl
                obtain ⟨gy, oy, rfl, _, _, hcy⟩ := hY.at_ (show j < kb by omega)
                rw [gots_get f ka j hjl] at hcx
                rw [gots_get f kb j (by omega)] at hcy
                have hjb : j < kb := by omega
                go_wp2_with fail
                go_quiet (fail)
                go_wp2
                go_roundw
                case rel => exact ⟨j + 1, _, by omega, by go_num, rfl⟩
                case measure => simp [intOf]; omega
              · go_wp2_with fail
                refine (aliveF _).mono ?_
                rintro e w7 ⟨rfl, hc7⟩
                go_wp2_with fail
                go_ret
                exact ⟨rfl, (hcr.drewN q).trans hc7⟩
          · go_wp2_with fail
            go_loopw [71] (fun i wx => ∃ j q, j ≤ kb ∧ i = .int .i64 (j : Nat) ∧ wx = wr.drewN q) (fun i _ => kb - (intOf i).toNat)
            case atStart => exact ⟨0, 0, Nat.zero_le _, rfl, rfl⟩
            case round =>
              obtain ⟨j, q, hj, rfl, rfl⟩ := hrel
              by_cases hjl : j < kb
              · obtain ⟨gx, ox, rfl, _, _, hcx⟩ := hX.at_ (show j < ka by omega)
                obtain ⟨gy, oy, rfl, _, _, hcy⟩ := hY.at_ hjl
                rw [gots_get f ka j (by omega)] at hcx
                rw [gots_get f kb j hjl] at hcy
                have hjb : j < ka := by omega
                go_wp2_with fail
                go_quiet (fail)
                go_wp2
                go_roundw
                case rel => exact ⟨j + 1, _, by omega, by go_num, rfl⟩
                case measure => simp [intOf]; omega
              · go_wp2_with fail
                refine (aliveF _).mono ?_
                rintro e w7 ⟨rfl, hc7⟩
                go_wp2_with fail
                go_ret
                exact ⟨rfl, (hcr.drewN q).trans hc7⟩
    · have h5 : 500 < nt := by omega
      go_enter Try.func8, Try.ntmps8
      go_wp2_with (first | (go_at_call 16; refine (fewF_yes t A n c _ hf1 hf2).mono ?_; rintro e w2 ⟨rfl, rfl⟩) | (go_at_call 17; refine (aliveF _).mono ?_; rintro e w2 ⟨rfl, hc2⟩))
      go_ret
      exact ⟨rfl, hc2⟩
  · have HF := hid hfew; clear hfew
    go_enter Try.func8, Try.ntmps8
    go_wp2_with (first | (go_at_call 16; refine (fewF_no t A n c _ HF.out).mono ?_; rintro e w2 ⟨rfl, rfl⟩) | (go_at_call 17; refine (aliveF _).mono ?_; rintro e w2 ⟨rfl, hc2⟩))
    go_ret
    exact ⟨rfl, hc2⟩
end Go.Proofs.Ytaniaeibaklbgaa
