/- Layer 14: the law QueryJoins, whole. -/
import Derived.Test.YtllblpiakijpaaaQmE
namespace Go.Proofs.Ytllblpiakijpaaa
open Go.RowKit
set_option linter.unusedVariables false
attribute [local go_sem ↓] Go.wp_at_zero Go.wp_at_succ
/-- What the slices of a join are. -/
theorem join_runs (D : Option Addr) (n m f : Nat) (hf : 1 + n + m ≤ f) :
    (∀ W, (Instr.slice 23 (.slice D (1 + n + m) f) (some (.int .i64 1)) (some (.int .i64 (1 + (n : Int)))) none).run Try.prog W = .ok (.slice (pieceA D 1 f 4) n (f - 1)) W) ∧
    (∀ W, (Instr.slice 23 (.slice D (1 + n + m) f) (some (.int .i64 (1 + (n : Int)))) none none).run Try.prog W = .ok (.slice (pieceA D (1 + n) f 4) m (f - (1 + n))) W) := by
  refine ⟨fun W => ?_, fun W => ?_⟩
  · have := run_between elemNd sizeNd D (1 + n + m) f 1 (1 + (n : Int)) 1 (1 + n) rfl (by omega) (by omega) (by omega) W
    rw [Nat.add_sub_cancel_left] at this; exact this
  · have := run_from elemNd sizeNd D (1 + n + m) f (1 + (n : Int)) (1 + n) (by omega) (by omega) W
    rw [Nat.add_sub_cancel_left] at this; exact this
set_option maxHeartbeats 32000000 in
set_option maxRecDepth 100000 in
theorem QueryJoins_good (s t : ByteArray) (w : World) {L M L3 L4 : List Nd} {a b a3 a4 no3 no4 : Int} (h1 : ParseR s L a 0) (h2 : ParseR t M b 0) (h3 : ParseR (s ++ bar1 ++ t) L3 a3 no3) (h4 : ParseR (s ++ amp1 ++ t) L4 a4 no4) (hb : s.size + t.size ≤ 900) (hfew : L.length + M.length < 64) (hdep : max (depthN L) (depthN M) < 16)
    {x y : Nd} {rx ry : List Nd} (hx : L = x :: rx) (hy : M = y :: ry) (c3 : y.kind ≠ 3 → no3 = 0 ∧ L3 = ⟨3, 0, [], 0⟩ :: (L ++ M)) (c4 : x.kind ≠ 3 → y.kind ≠ 3 → y.kind ≠ 2 → no4 = 0 ∧ L4 = ⟨2, 0, [], 0⟩ :: (L ++ M)) :
    Calls Try.prog 9 #[.string s, .string t] w fun e w' => e = .returned (.bool true) ∧ Chg Nothing w w' := by
  have hbi : decide ((900 : Int) < (s.size : Int) + (t.size : Int)) = false := decide_eq_false (by omega)
  have hp1 := hid (parse_any s L a 0 h1 · (by omega))
  have hp2 := hid (parse_any t M b 0 h2 · (by omega))
  have hp3 := hid (fun w => or_any h3 hb w)
  have hp4 := hid (fun w => and_any h4 hb w)
  have e1 : ¬ (9223372036854775807 < s.size + 1) := by omega
  have e2 : ¬ (9223372036854775807 < s.size + 1 + t.size) := by omega
  have hxh := hid hx
  have hyh := hid hy
  have c3h := hid c3
  have c4h := hid c4
  have hfewh := hid hfew
  have hn0 : 1 ≤ L.length := by rw [hx]; simp
  have hm0 : 1 ≤ M.length := by rw [hy]; simp
  obtain ⟨n, hn⟩ : ∃ n, n = L.length := ⟨_, rfl⟩
  obtain ⟨m, hm⟩ : ∃ m, m = M.length := ⟨_, rfl⟩
  rw [← hn] at hn0 hfew
  rw [← hm] at hm0 hfew
  have hnh := hid hn
  have hmh := hid hm
  clear h1 h2 h3 h4 hx hy c3 c4 hn hm
  go_enter Try.func9, Try.ntmps9
  go_wp2_with fail
  refine (hp1.out _).mono ?_
  rintro e w1 ⟨A, n', c, ps, rfl, hA, hps, hc1⟩
  obtain rfl : n = n' := by have := congrArg List.length hps; rw [List.length_map, hA.len] at this; rw [hnh.out]; exact this.symm
  have hA1 := hid hA
  have hC1 := hid hc1
  have hpsh := hid hps
  clear hA hc1 hps
  go_wp2_with fail
  refine (hp2.out _).mono ?_
  rintro e w2 ⟨B, m', d, qs, rfl, hB, hqs, hc2⟩
  obtain rfl : m = m' := by have := congrArg List.length hqs; rw [List.length_map, hB.len] at this; rw [hmh.out]; exact this.symm
  have hA2 := hid (hA1.out.calm hc2)
  have hC2 := hid (hC1.out.trans hc2)
  have hB2 := hid hB
  have hqsh := hid hqs
  clear hB hc2 hA1 hC1 hqs
  have hn0' : ((n : Int) == 0) = false := beq_eq_false_iff_ne.2 (by omega)
  have hm0' : ((m : Int) == 0) = false := beq_eq_false_iff_ne.2 (by omega)
  have h64' : decide ((64 : Int) ≤ (n : Int) + (m : Int)) = false := decide_eq_false (by omega)
  have hn64 : n ≤ 64 := by omega
  have hm64 : m ≤ 64 := by omega
  have hD1 := hid (fun (w' : World) (hc : Chg Nothing w2 w') => by have := Depth_any (fun _ => True) A n c ps w' (hA2.out.calm hc) (by omega); rw [hpsh.out] at this; exact this)
  have hD2 := hid (fun (w' : World) (hc : Chg Nothing w2 w') => by have := Depth_any (fun _ => True) B m d qs w' (hB2.out.calm hc) (by omega); rw [hqsh.out] at this; exact this)
  obtain ⟨d1, hd1⟩ : ∃ d1, d1 = depthN L := ⟨_, rfl⟩
  obtain ⟨d2, hd2⟩ : ∃ d2, d2 = depthN M := ⟨_, rfl⟩
  rw [← hd1] at hD1 hdep
  rw [← hd2] at hD2 hdep
  replace hd1 := hid hd1
  replace hd2 := hid hd2
  obtain ⟨dm, hdm⟩ : ∃ dm : Nat, dm = max d1 d2 := ⟨_, rfl⟩
  have hmx : max (d1 : Int) (d2 : Int) = (dm : Int) := by omega
  have hdi : decide ((16 : Int) ≤ (dm : Int)) = false := decide_eq_false (by omega)
  replace hdm := hid hdm
  clear hdep
  go_wp2_with fail
  refine (hD1.out _ (Chg.refl _ _)).mono ?_
  rintro e w3 ⟨rfl, hc3⟩
  have hC3 := hid hc3
  clear hc3
  go_wp2_with fail
  refine (hD2.out _ hC3.out).mono ?_
  rintro e w4 ⟨rfl, hc4⟩
  have hC4 := hid ((hC2.out.trans hC3.out).trans hc4)
  have hA4 := hid ((hA2.out.calm hC3.out).calm hc4)
  have hB4 := hid ((hB2.out.calm hC3.out).calm hc4)
  clear hc4 hC3 hC2 hA2 hB2 hD1 hD2
  go_wp2_with fail
  refine (hp3.out _).mono ?_
  rintro e w5 ⟨D, k3, f, rs, rfl, hD, hrs, hc⟩
  have hC5 := hid (hC4.out.trans hc)
  have hA5 := hid (hA4.out.calm hc)
  have hB5 := hid (hB4.out.calm hc)
  have hD5 := hid hD
  have hrsh := hid hrs
  clear hc hC4 hA4 hB4 hD hrs hmx hdi hn0' hm0' h64'
  go_wp2_with fail
  refine (hp4.out _).mono ?_
  rintro e w6 ⟨E, k4, g4, us, rfl, hE, hus, hc⟩
  have hC6 := hid (hC5.out.trans hc)
  have hA6 := hid (hA5.out.calm hc)
  have hB6 := hid (hB5.out.calm hc)
  have hD6 := hid (hD5.out.calm hc)
  have hE6 := hid hE
  have hush := hid hus
  clear hc hC5 hA5 hB5 hD5 hE hus e1 e2 hp1 hp2 hp3 hp4 hbi
  obtain ⟨ga, oa, qa, rfl, hgla, -, -, -, -, ca, -, -, -⟩ := hA6.out.node (k := 0) (x := x) (r := rx) (by rw [List.drop_zero, hpsh.out]; exact hxh.out)
  obtain ⟨gb, ob, qb, rfl, hglb, -, -, -, -, cb, -, -, -⟩ := hB6.out.node (k := 0) (x := y) (r := ry) (by rw [List.drop_zero, hqsh.out]; exact hyh.out)
  rw [Nat.zero_mul, Nat.add_zero] at ca cb
  have hnI : (0 : Int) < (n : Int) := by omega
  have hmI : (0 : Int) < (m : Int) := by omega
  have hn9 : (n : Int) + (m : Int) < 64 := by omega
  have hmn : (0 : Int) ≤ (m : Int) := by omega
  obtain ⟨xk, hxk⟩ : ∃ xk, xk = x.kind := ⟨_, rfl⟩
  obtain ⟨yk, hyk⟩ : ∃ yk, yk = y.kind := ⟨_, rfl⟩
  rw [← hxk] at ca c4h
  rw [← hyk] at cb c3h c4h
  replace hxk := hid hxk
  replace hyk := hid hyk
  clear hfew hn0 hm0
  by_cases hy3 : yk = 3
  · subst hy3
    by_cases hx3 : xk = 3
    · subst hx3
      go_wp2_with fail
      refine (alive14 _).mono ?_
      rintro e w7 ⟨rfl, hc⟩
      go_wp2
      go_ret
      exact ⟨rfl, hC6.out.trans hc⟩
    · have hx3' : (xk == 3) = false := beq_eq_false_iff_ne.2 hx3
      replace hx3 := hid hx3
      go_wp2_with fail
      refine (alive14 _).mono ?_
      rintro e w7 ⟨rfl, hc⟩
      go_wp2
      go_ret
      exact ⟨rfl, hC6.out.trans hc⟩
  · obtain ⟨rfl, hL3⟩ := c3h.out hy3
    have hy3' : (yk != 3) = true := bne_iff_ne.2 hy3
    have hy3'' : (yk == 3) = false := beq_eq_false_iff_ne.2 hy3
    obtain rfl : k3 = 1 + n + m := by
      have := congrArg List.length hrsh.out
      rw [List.length_map, hD6.out.len, hL3] at this
      simp only [List.length_cons, List.length_append] at this
      have h1 := hnh.out; have h2 := hmh.out; omega
    have hf := hD6.out.row.le
    have hfm := hD6.out.row.max
    obtain ⟨run1, run2⟩ := join_runs D n m f hf
    obtain ⟨p1, p2, hq1, hq2, hN1, hN2⟩ := hD6.out.join (x := ⟨3, 0, [], 0⟩) (L := L) (M := M) (hrsh.out.trans hL3) hnh.out.symm hmh.out.symm
    have hS1 := hid (fun (w' : World) (hc : Chg Nothing w6 w') => by have := querySame_any (fun _ => True) (fun _ => True) _ _ _ p1 (some ⟨ga, oa, none⟩) n c ps w' (NRow.calm hN1 hc) (hA6.out.calm hc); rw [(sameN_iff _ _).2 (hq1.trans hpsh.out.symm)] at this; exact this)
    have hS2 := hid (fun (w' : World) (hc : Chg Nothing w6 w') => by have := querySame_any (fun _ => True) (fun _ => True) _ _ _ p2 (some ⟨gb, ob, none⟩) m d qs w' (NRow.calm hN2 hc) (hB6.out.calm hc); rw [(sameN_iff _ _).2 (hq2.trans hqsh.out.symm)] at this; exact this)
    obtain ⟨gd, od, qd, rfl, hgld, -, -, -, -, cd, -, -, -⟩ := hD6.out.node (k := 0) (x := ⟨3, 0, [], 0⟩) (r := L ++ M) (by rw [List.drop_zero, hrsh.out]; exact hL3)
    rw [Nat.zero_mul, Nat.add_zero] at cd
    have hkI : (0 : Int) < 1 + (n : Int) + (m : Int) := by omega
    have hy3h := hid hy3
    clear hN1 hN2 hq1 hq2 hL3 hy3
    go_wp2_with fail
    refine (hS1.out _ (Chg.refl _ _)).mono ?_
    rintro e w7 ⟨rfl, hc⟩
    have hC7 := hid hc
    clear hc
    go_wp2_with fail
    refine (hS2.out _ hC7.out).mono ?_
    rintro e w8 ⟨rfl, hc⟩
    have hC8 := hid (hC7.out.trans hc)
    have ca8 := (hC8.out.cells.1 _ _ hgla).trans ca
    have cb8 := (hC8.out.cells.1 _ _ hglb).trans cb
    have hgla8 : ga < w8.heap.size := Nat.lt_of_lt_of_le hgla hC8.out.size
    have hglb8 : gb < w8.heap.size := Nat.lt_of_lt_of_le hglb hC8.out.size
    clear hc hC7 ca cb cd hgla hglb hgld hS1 hS2 run1 run2
    by_cases hx3 : xk = 3
    · subst hx3
      go_wp2_with fail
      refine (alive14 _).mono ?_
      rintro e w9 ⟨rfl, hc⟩
      go_wp2
      go_ret
      exact ⟨rfl, (hC6.out.trans hC8.out).trans hc⟩
    · have hx3' : (xk == 3) = false := beq_eq_false_iff_ne.2 hx3
      by_cases hy2 : yk = 2
      · subst hy2
        replace hx3 := hid hx3
        go_wp2_with fail
        refine (alive14 _).mono ?_
        rintro e w9 ⟨rfl, hc⟩
        go_wp2
        go_ret
        exact ⟨rfl, (hC6.out.trans hC8.out).trans hc⟩
      · have hy2' : (yk == 2) = false := beq_eq_false_iff_ne.2 hy2
        obtain ⟨rfl, hL4⟩ := c4h.out hx3 hy3h.out hy2
        obtain rfl : k4 = 1 + n + m := by
          have := congrArg List.length hush.out
          rw [List.length_map, hE6.out.len, hL4] at this
          simp only [List.length_cons, List.length_append] at this
          have h1 := hnh.out; have h2 := hmh.out; omega
        have hf4 := hE6.out.row.le
        have hfm4 := hE6.out.row.max
        obtain ⟨run1, run2⟩ := join_runs E n m g4 hf4
        obtain ⟨p1, p2, hq1, hq2, hN1, hN2⟩ := hE6.out.join (x := ⟨2, 0, [], 0⟩) (L := L) (M := M) (hush.out.trans hL4) hnh.out.symm hmh.out.symm
        have hS1 := hid (fun (w' : World) (hc : Chg Nothing w6 w') => by have := querySame_any (fun _ => True) (fun _ => True) _ _ _ p1 (some ⟨ga, oa, none⟩) n c ps w' (NRow.calm hN1 hc) (hA6.out.calm hc); rw [(sameN_iff _ _).2 (hq1.trans hpsh.out.symm)] at this; exact this)
        have hS2 := hid (fun (w' : World) (hc : Chg Nothing w6 w') => by have := querySame_any (fun _ => True) (fun _ => True) _ _ _ p2 (some ⟨gb, ob, none⟩) m d qs w' (NRow.calm hN2 hc) (hB6.out.calm hc); rw [(sameN_iff _ _).2 (hq2.trans hqsh.out.symm)] at this; exact this)
        obtain ⟨ge, oe, qe, rfl, hgle, -, -, -, -, ce, -, -, -⟩ := hE6.out.node (k := 0) (x := ⟨2, 0, [], 0⟩) (r := L ++ M) (by rw [List.drop_zero, hush.out]; exact hL4)
        rw [Nat.zero_mul, Nat.add_zero] at ce
        replace hx3 := hid hx3
        replace hy2 := hid hy2
        clear hN1 hN2 hq1 hq2 hL4
        go_wp2_with fail
        refine (alive14 _).mono ?_
        rintro e w9 ⟨rfl, hc⟩
        have hC9 := hid (hC8.out.trans hc)
        have ce9 := (hC9.out.cells.1 _ _ hgle).trans ce
        have hgle9 : ge < w9.heap.size := Nat.lt_of_lt_of_le hgle hC9.out.size
        clear hc hC8 ca8 cb8 hgla8 hglb8 ce hgle
        go_wp2_with fail
        refine (hS1.out _ hC9.out).mono ?_
        rintro e w10 ⟨rfl, hc⟩
        have hC10 := hid (hC9.out.trans hc)
        clear hc ce9 hgle9 hC9
        go_wp2_with fail
        refine (hS2.out _ hC10.out).mono ?_
        rintro e w11 ⟨rfl, hc⟩
        go_wp2
        go_ret
        exact ⟨rfl, (hC6.out.trans hC10.out).trans hc⟩
set_option maxHeartbeats 4000000 in
set_option maxRecDepth 100000 in
theorem QueryJoins_walk (s t : ByteArray) (w : World) (hs : s.size ≤ 140737488351232) (ht : t.size ≤ 140737488351232) :
    Calls Try.prog 9 #[.string s, .string t] w fun e w' => e = .returned (.bool true) ∧ Chg Nothing w w' := by
  by_cases hb : 900 < s.size + t.size
  · have hbi : (900 : Int) < (s.size : Int) + (t.size : Int) := by omega
    go_enter Try.func9, Try.ntmps9
    go_wp2_with fail
    refine (alive14 _).mono ?_
    rintro e w1 ⟨rfl, hc⟩
    go_wp2
    go_ret
    exact ⟨rfl, hc⟩
  obtain ⟨L, a, no1, h1⟩ := parse_total s
  obtain ⟨M, b, no2, h2⟩ := parse_total t
  by_cases hg : no1 = 0 ∧ no2 = 0 ∧ L.length + M.length < 64 ∧ max (depthN L) (depthN M) < 16
  · obtain ⟨rfl, rfl, hfew, hdep⟩ := hg
    obtain ⟨t1, ht1, e1⟩ := parse_tree h1
    obtain ⟨t2, ht2, e2⟩ := parse_tree h2
    obtain ⟨rx, hx⟩ := t1.flat_head
    obtain ⟨ry, hy⟩ := t2.flat_head
    rw [← e1] at hx
    rw [← e2] at hy
    have nL : ∀ k, t1.root.kind ≠ k → ∀ r, L ≠ ⟨k, 0, [], 0⟩ :: r := fun k hk r e => by rw [hx] at e; injection e with e _; exact hk (by rw [e])
    have nM : ∀ k, t2.root.kind ≠ k → ∀ r, M ≠ ⟨k, 0, [], 0⟩ :: r := fun k hk r e => by rw [hy] at e; injection e with e _; exact hk (by rw [e])
    have hsz : s.size + t.size ≤ 900 := by omega
    obtain ⟨L3, a3, no3, h3, c3⟩ : ∃ L3 a3 no3, ParseR (s ++ bar1 ++ t) L3 a3 no3 ∧ (t2.root.kind ≠ 3 → no3 = 0 ∧ L3 = ⟨3, 0, [], 0⟩ :: (L ++ M)) := by
      by_cases hk : t2.root.kind = 3
      · obtain ⟨L3, a3, no3, h⟩ := parse_total (s ++ bar1 ++ t)
        exact ⟨L3, a3, no3, h, fun h => absurd hk h⟩
      · exact ⟨_, _, _, parse_or h1 h2 hsz hfew hdep (nM 3 hk), fun _ => ⟨rfl, rfl⟩⟩
    obtain ⟨L4, a4, no4, h4, c4⟩ : ∃ L4 a4 no4, ParseR (s ++ amp1 ++ t) L4 a4 no4 ∧ (t1.root.kind ≠ 3 → t2.root.kind ≠ 3 → t2.root.kind ≠ 2 → no4 = 0 ∧ L4 = ⟨2, 0, [], 0⟩ :: (L ++ M)) := by
      by_cases hk : t1.root.kind ≠ 3 ∧ t2.root.kind ≠ 3 ∧ t2.root.kind ≠ 2
      · exact ⟨_, _, _, parse_and h1 h2 hsz hfew hdep (nL 3 hk.1) (nM 3 hk.2.1) (nM 2 hk.2.2), fun _ _ _ => ⟨rfl, rfl⟩⟩
      · obtain ⟨L4, a4, no4, h⟩ := parse_total (s ++ amp1 ++ t)
        exact ⟨L4, a4, no4, h, fun p q r => absurd ⟨p, q, r⟩ hk⟩
    exact QueryJoins_good s t w h1 h2 h3 h4 hsz hfew hdep hx hy c3 c4
  · exact QueryJoins_bad s t w hs ht h1 h2 (by omega) hg
end Go.Proofs.Ytllblpiakijpaaa
