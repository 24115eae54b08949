/- Layer 13: the program's Lex. -/
import Derived.Test.YtpndjehiacmngaaTokY
namespace Go.Proofs.Ytpndjehiacmngaa
open Go.RowKit
set_option linter.unusedVariables false
attribute [local go_sem ↓] Go.wp_at_zero Go.wp_at_succ
theorem infoTz : (Try.prog.info? 40).map (fun i => (i.zero, i.size, i.bytes)) = some (some (.agg #[.int .i64 0, .int .i64 0, .int .i64 0, .slice none 0 0]), 4, 48) := by kernel_rfl
/-- One more token, its elements in blocks that came behind the row's own. -/
theorem TRow.snoc2 {w w2 : World} {base : Nat} {T : TypeId} {A A' : Option Addr} {n c c' : Nat} {ps : List TP} (h : TRow w base T A n c ps) (p : TP) (b1 : Nat)
    (hbase : base ≤ b1) (hoa : ∀ k, Of A k → k < b1) (hp : PRead (fun k => b1 ≤ k) w p)
    (hown : w2.ownsRow base T 4 (.slice A' (n + 1) c') (n + 1) (ps.flatMap tpL ++ tpL p)) (hc2 : Chg (Of A) w w2) (hA : ∀ k, Of A' k → Of A k ∨ w.heap.size ≤ k) :
    TRow w2 base T A' (n + 1) c' (ps ++ [p]) := by
  refine ⟨by rw [List.length_append, h.len]; rfl, by rw [List.flatMap_append]; simpa using hown, fun q hq => ?_⟩
  rw [List.mem_append] at hq
  rcases hq with hq | hq
  · have e := h.els q hq
    refine ⟨?_, e.len⟩
    have r2 := e.row.mono (G := fun k => base ≤ k ∧ ¬ Of A k ∧ k < w.heap.size) (fun k hk hF => ⟨hF.1, hF.2, hk⟩)
    have r3 := r2.chg hc2 (fun k hk hF => hF.2.1)
    exact r3.mono (fun k hk hF => ⟨hF.1, fun hA' => by rcases hA k hA' with h1 | h1; exact hF.2.1 h1; have := hF.2.2; omega⟩)
  · simp at hq; subst hq
    refine ⟨?_, hp.len⟩
    have r2 := hp.row.mono (G := fun k => b1 ≤ k ∧ k < w.heap.size) (fun k hk hF => ⟨hF, hk⟩)
    have r3 := r2.chg hc2 (fun k hk hF hOf => by have := hoa k hOf; omega)
    exact r3.mono (fun k hk hF => ⟨by omega, fun hA' => by rcases hA k hA' with h1 | h1; have := hoa k h1; omega; omega⟩)
def PlInv (s : ByteArray) (w : World) (R : Rd (List Tok)) (ov : Value) (wr : World) : Prop :=
  ∃ (k : Nat) (no : Int) (ps : List TP) (A : Option Addr) (n c : Nat), ov = .slice A n c ∧ k ≤ s.size ∧ SBox wr w.heap.size s k no ∧ Chg Nothing w wr ∧ ((no = 0 ∧ n ≤ k ∧ LexRun s k (ps.map TP.t) R ∧ Hid (TRow wr (w.heap.size + 1) 40 A n c ps)) ∨ (no ≠ 0 ∧ R = .bad k no))
set_option maxHeartbeats 8000000 in
set_option maxRecDepth 100000 in
theorem lex_any (s : ByteArray) (R : Rd (List Tok)) (hR : lexS s R) (w : World) (hs : s.size ≤ 9223372036854775000) :
    Calls Try.prog 10 #[.string s] w (LexAns 40 R w) := by
  unfold lexS at hR
  by_cases hbig : 1000 < s.size
  · rw [if_pos hbig] at hR
    subst hR
    have hbi : (1000 : Int) < (s.size : Int) := by omega
    go_enter Try.func10, Try.ntmps10
    go_wp2
    go_ret3
    exact ⟨none, 0, 0, [], rfl, TRow.nil _ _ _, (fun l nx h => by cases h), (fun _ => rfl), Chg.refl _ _⟩
  · rw [if_neg hbig] at hR
    have hbi : ¬ (1000 : Int) < (s.size : Int) := by omega
    have hR := hid hR
    go_enter Try.func10, Try.ntmps10
    go_wp2_with fail
    go_loopw [6] (fun ov wr => PlInv s w R ov wr) (fun _ wr => patMu s w.heap.size wr)
    case atStart => exact ⟨0, 0, [], none, 0, 0, rfl, Nat.zero_le _, Blk.new w _ _, (Chg.refl _ _).alloc _, .inl ⟨rfl, Nat.le_refl _, hR.out, hid (TRow.nil _ _ _)⟩⟩
    case round =>
      clear hR
      obtain ⟨k, no, ps, A, n, c, rfl, hk, hbox, hchg, hst⟩ := hrel
      have HB := hid hbox
      have hmu := hid (show no = 0 → patMu s w.heap.size wr = s.size + 2 - k from fun h => by unfold patMu; rw [hbox.noOf, hbox.place, if_pos h])
      obtain ⟨r0, r1, r2, f0, f1, f2, hlb⟩ := SBox.at_ hbox
      clear hbox
      rcases hst with ⟨rfl, hn, hrun, HT⟩ | ⟨hne, rfl⟩
      · cases hrun with
        | stop h =>
          have he : decide ((s.size : Int) ≤ (k : Int)) = true := decide_eq_true (by omega)
          go_wp2_with fail
          refine (end_quiet w.heap.size s k 0 _ HB.out (by omega)).mono ?_
          rintro e w' ⟨rfl, m, rfl⟩
          rw [he]
          go_wp2
          go_ret3
          exact ⟨A, n, c, ps, rfl, ⟨HT.out.len, own_base_less (own_chg HT.out.own ((Chg.refl Nothing wr).drewN _) (fun _ _ h => h)) (Nat.le_succ _), fun p hp => ⟨((HT.out.els p hp).row.chg ((Chg.refl Nothing wr).drewN _) (fun _ _ _ h => h)).mono (fun k hk hF => ⟨by omega, hF.2⟩), (HT.out.els p hp).len⟩⟩, (fun l nx h => by injection h), (fun h => absurd rfl h), hchg.drewN _⟩
        | blank h hb r =>
          have he : decide ((s.size : Int) ≤ (k : Int)) = false := decide_eq_false (by omega)
          have h32 := hid (hasB_yes h hb)
          replace hb := hid hb
          go_wp2_with fail
          refine (end_quiet w.heap.size s k 0 _ HB.out (by omega)).mono ?_
          rintro e w' ⟨rfl, m, rfl⟩
          rw [he]
          go_wp2_with fail
          refine (has_any w.heap.size s k 32 0 _ (Blk.drewN HB.out _) (by omega) (by omega) (by decide)).mono ?_
          rintro e w1 ⟨rfl, hB, hc⟩
          rw [h32.out]
          rw [h32.out] at hB
          have hB1 := hid (show SBox w1 w.heap.size s (k + 1 : Nat) 0 from hB)
          have hT1 := hid (HT.out.chg (((Chg.refl (One w.heap.size) wr).drewN _).trans hc) (fun j hj _ => by unfold One; omega))
          have hC1 := hid ((hchg.drewN _).then hc (fun i hi hk => absurd hk (by unfold One; omega)))
          clear hB hc
          go_wp2
          go_roundw
          case rel => exact ⟨k + 1, 0, ps, A, n, c, rfl, by omega, hB1.out, hC1.out, .inl ⟨rfl, by omega, r, hT1⟩⟩
          case measure => rw [hmu.out (by simp)]; unfold patMu; rw [hB1.out.noOf, hB1.out.place, if_pos rfl]; omega
        | @bad _ _ p e0 h hb r =>
          have he : decide ((s.size : Int) ≤ (k : Int)) = false := decide_eq_false (by omega)
          have h32 := hid (hasB_no (s := s) (k := k) hb)
          have hpl := r.placed h
          have hne := hpl.ok (fun v nx h => by cases h)
          have hle := hpl.le
          simp only [Rd.no] at hne
          simp only [Rd.at_] at hle
          clear hpl
          replace hb := hid hb
          go_wp2_with fail
          refine (end_quiet w.heap.size s k 0 _ HB.out (by omega)).mono ?_
          rintro e w' ⟨rfl, m, rfl⟩
          rw [he]
          go_wp2_with fail
          refine (has_any w.heap.size s k 32 0 _ (Blk.drewN HB.out _) (by omega) (by omega) (by decide)).mono ?_
          rintro e w1 ⟨rfl, hB, hc⟩
          rw [h32.out]
          rw [h32.out] at hB
          have hB1 := hid (show SBox w1 w.heap.size s (k : Nat) 0 from hB)
          have hT1 := hid (HT.out.chg (((Chg.refl (One w.heap.size) wr).drewN _).trans hc) (fun j hj _ => by unfold One; omega))
          have hC1 := hid ((hchg.drewN _).then hc (fun i hi hk => absurd hk (by unfold One; omega)))
          clear hB hc
          go_wp2_with fail
          refine (token_any w.heap.size s k _ r _ hB1.out hs h).mono ?_
          rintro e w2 ⟨kd, at_, nn, A1, l1, c1, rfl, hx, hB, hc⟩
          have hB2 := hid hB
          have hO2 := hid (own_chg hT1.out.own hc (fun j hj => by have := own_of hT1.out.own j hj; unfold One; omega))
          have hC2 := hid (hC1.out.then hc (fun i hi hk => absurd hk (by unfold One; omega)))
          have hs2 := hc.size
          have hl1 := hB1.out.lt
          clear hx hB hc
          go_wp2_with (at_builtin; (refine append_cells (w := w2) rfl _ _ 23 rfl (w.heap.size + 1) 40 (.agg #[.int .i64 0, .int .i64 0, .int .i64 0, .slice none 0 0]) 4 48 Try.underlying23 infoTz rfl (by decide) A c n _ rfl hO2.out [.int .i64 kd, .int .i64 at_, .int .i64 nn, .slice A1 l1 c1] rfl rfl (by intro u hu; simp at hu; rcases hu with rfl | rfl | rfl | rfl <;> rfl) ?_ ?_ ?_ ?_))
          · omega
          · omega
          · omega
          intro A' c' w6 hown6 hc6 hA
          have oa := own_of hO2.out
          have hB6 := hid (hB2.out.chg hc6 (fun h => by have := oa _ h; omega))
          have hC6 := hid (hC2.out.then hc6 (fun i hi h => by have := oa _ h; omega))
          clear hown6 hc6 hA oa
          go_wp2
          go_roundw
          case rel => exact ⟨p, e0, ps, A', n + 1, c', rfl, hle, hB6.out, hC6.out, .inr ⟨hne, rfl⟩⟩
          case measure => rw [hmu.out (by simp)]; unfold patMu; rw [show noW _ _ = e0 from SBox.noOf hB6.out, if_neg hne]; omega
        | @step _ _ t d _ h hb r rr =>
          have he : decide ((s.size : Int) ≤ (k : Int)) = false := decide_eq_false (by omega)
          have h32 := hid (hasB_no (s := s) (k := k) hb)
          have hpl := r.placed h
          have hlt2 := hpl.lt rfl
          have hle := hpl.le
          simp only [Rd.at_] at hle hlt2
          clear hpl
          replace hb := hid hb
          go_wp2_with fail
          refine (end_quiet w.heap.size s k 0 _ HB.out (by omega)).mono ?_
          rintro e w' ⟨rfl, m, rfl⟩
          rw [he]
          go_wp2_with fail
          refine (has_any w.heap.size s k 32 0 _ (Blk.drewN HB.out _) (by omega) (by omega) (by decide)).mono ?_
          rintro e w1 ⟨rfl, hB, hc⟩
          rw [h32.out]
          rw [h32.out] at hB
          have hB1 := hid (show SBox w1 w.heap.size s (k : Nat) 0 from hB)
          have hT1 := hid (HT.out.chg (((Chg.refl (One w.heap.size) wr).drewN _).trans hc) (fun j hj _ => by unfold One; omega))
          have hC1 := hid ((hchg.drewN _).then hc (fun i hi hk => absurd hk (by unfold One; omega)))
          have hw1 := hid hC1.out.size
          clear hB hc
          go_wp2_with fail
          refine (token_any w.heap.size s k _ r _ hB1.out hs h).mono ?_
          rintro e w2 ⟨kd, at_, nn, A1, l1, c1, rfl, hx, hB, hc⟩
          obtain ⟨rfl, rfl, rfl, hP⟩ := hx t d rfl
          have hP2 := hid hP
          have hB2 := hid hB
          have hT2 := hid (hT1.out.chg hc (fun j hj _ => by unfold One; omega))
          have hC2 := hid (hC1.out.then hc (fun i hi hk => absurd hk (by unfold One; omega)))
          have hs2 := hc.size
          have hl1 := hB1.out.lt
          clear hx hB hc hP
          go_wp2_with (at_builtin; (refine append_cells (w := w2) rfl _ _ 23 rfl (w.heap.size + 1) 40 (.agg #[.int .i64 0, .int .i64 0, .int .i64 0, .slice none 0 0]) 4 48 Try.underlying23 infoTz rfl (by decide) A c n _ rfl hT2.out.own (tpL ⟨t, A1, l1, c1⟩) rfl rfl (tpL_one _) ?_ ?_ ?_ ?_))
          · omega
          · omega
          · omega
          intro A' c' w6 hown6 hc6 hA
          have oa := own_of hT2.out.own
          have oa1 := hid (own_of hT1.out.own)
          have hB6 := hid (hB2.out.chg hc6 (fun h => by have := oa _ h; omega))
          have hC6 := hid (hC2.out.then hc6 (fun i hi h => by have := oa _ h; omega))
          have hT6 := hid (TRow.snoc2 hT2.out ⟨t, A1, l1, c1⟩ (w1.heap.size + 2) (by omega) (fun k hk => by have := oa1.out k hk; omega) hP2.out hown6 hc6 hA)
          clear hown6 hc6 hA oa
          go_wp2
          go_roundw
          case rel => exact ⟨d, 0, ps ++ [⟨t, A1, l1, c1⟩], A', n + 1, c', rfl, hle, hB6.out, hC6.out, .inl ⟨rfl, by omega, by rw [List.map_append]; exact rr, hT6⟩⟩
          case measure => rw [hmu.out (by simp)]; unfold patMu; rw [show noW _ _ = (0 : Int) from SBox.noOf hB6.out, show placeW _ _ = d from SBox.place hB6.out, if_pos rfl]; omega
      · have hne1 : (no == 0) = false := beq_eq_false_iff_ne.2 hne
        have hne2 : (no != 0) = true := by rw [bne_iff_ne]; exact hne
        by_cases hks : s.size ≤ k
        · have he : decide ((s.size : Int) ≤ (k : Int)) = true := decide_eq_true (by omega)
          go_wp2_with fail
          refine (end_quiet w.heap.size s k no _ HB.out (by omega)).mono ?_
          rintro e w' ⟨rfl, m, rfl⟩
          rw [he]
          go_wp2_with fail
          go_quiet (fail)
          go_wp2
          go_ret3
          exact ⟨none, 0, 0, [], rfl, TRow.nil _ _ _, (fun l nx h => by cases h), (fun _ => rfl), (hchg.drewN _).drewN _⟩
        · have he : decide ((s.size : Int) ≤ (k : Int)) = false := decide_eq_false (by omega)
          go_wp2_with fail
          refine (end_quiet w.heap.size s k no _ HB.out (by omega)).mono ?_
          rintro e w' ⟨rfl, m, rfl⟩
          rw [he]
          go_wp2_with fail
          go_quiet (fail)
          go_wp2
          go_ret3
          exact ⟨none, 0, 0, [], rfl, TRow.nil _ _ _, (fun l nx h => by cases h), (fun _ => rfl), (hchg.drewN _).drewN _⟩
end Go.Proofs.Ytpndjehiacmngaa
