/- Layer 13: rows of tokens that are the same. -/
import Derived.Test.YtpndjehiacmngaaTokZ
namespace Go.Proofs.Ytpndjehiacmngaa
open Go.RowKit
set_option linter.unusedVariables false
attribute [local go_sem ↓] Go.wp_at_zero Go.wp_at_succ
/-- A row of tokens that is read. -/
structure TRead (F : Nat → Prop) (w : World) (A : Option Addr) (n c : Nat) (ps : List TP) : Prop where
  len : ps.length = n
  row : RowAt 4 F w A n c (ps.flatMap tpL)
  els : ∀ p ∈ ps, PRead F w p
theorem TRow.read {w : World} {base : Nat} {T : TypeId} {A : Option Addr} {n c : Nat} {ps : List TP} (h : TRow w base T A n c ps) : TRead (fun k => base ≤ k) w A n c ps :=
  ⟨h.len, (RowAt.of_own h.own).mono (fun k _ hF => hF.2), fun p hp => ⟨(h.els p hp).row.mono (fun k _ hF => hF.1), (h.els p hp).len⟩⟩
theorem TRead.chg {F S : Nat → Prop} {w w' : World} {A : Option Addr} {n c : Nat} {ps : List TP} (h : TRead F w A n c ps) (hc : Chg S w w') (hd : ∀ k, k < w.heap.size → F k → ¬ S k) : TRead F w' A n c ps :=
  ⟨h.len, h.row.chg hc hd, fun p hp => ⟨(h.els p hp).row.chg hc hd, (h.els p hp).len⟩⟩
def tp0 : TP := ⟨⟨0, 0, 0, []⟩, none, 0, 0⟩
theorem clsL_len (x : Cls) : (clsL x).length = 4 := rfl
/-- What the outer loop and the inner one keep: nothing has turned. -/
def SmInv (w : World) (n : Nat) (iv : Value) (wr : World) : Prop := ∃ i : Nat, i ≤ n ∧ iv = .int .i64 i ∧ Chg Nothing w wr
def SmIn (w : World) (l : Nat) (jv : Value) (wr : World) : Prop := ∃ j : Nat, j ≤ l ∧ jv = .int .i64 j ∧ Chg Nothing w wr
set_option maxHeartbeats 8000000 in
set_option maxRecDepth 100000 in
theorem refSame_yes (F : Nat → Prop) (A : Option Addr) (n c : Nat) (ps : List TP) (B : Option Addr) (d : Nat) (qs : List TP) (w : World) (HA : TRead F w A n c ps) (HB : TRead F w B n d qs) (he : ps.map TP.t = qs.map TP.t) (hn : n ≤ 2000) (h64 : ∀ p ∈ ps, p.l ≤ 9223372036854775000) :
    Calls Try.prog 12 #[.slice A n c, .slice B n d] w fun e w' => e = .returned (.bool true) ∧ Chg Nothing w w' := by
  have HA' := hid HA
  have HB' := hid HB
  have he' := hid he
  have h64' := hid h64
  clear HA HB he h64
  go_enter Try.func12, Try.ntmps12
  go_wp2_with fail
  go_loopw [5] (fun iv wr => SmInv w n iv wr) (fun iv _ => n - (intOf iv).toNat)
  case atStart => exact ⟨0, Nat.zero_le _, rfl, Chg.refl _ _⟩
  case round =>
    obtain ⟨i, hi, rfl, hchg⟩ := hrel
    rcases Nat.lt_or_ge i n with hin | hin
    · have HA1 := HA'.out.chg hchg (fun _ _ _ h => h)
      have HB1 := HB'.out.chg hchg (fun _ _ _ h => h)
      have hpl : i < ps.length := by rw [HA1.len]; exact hin
      have hql : i < qs.length := by rw [HB1.len]; exact hin
      obtain ⟨g, o, rfl, -, hgl, hca⟩ := HA1.row.cell hin (by decide)
      obtain ⟨g2, o2, rfl, -, hgl2, hcb⟩ := HB1.row.cell hin (by decide)
      have a0 := hca 0 (by decide)
      have a1 := hca 1 (by decide)
      have a2 := hca 2 (by decide)
      have a3 := hca 3 (by decide)
      have b0 := hcb 0 (by decide)
      have b1 := hcb 1 (by decide)
      have b2 := hcb 2 (by decide)
      have b3 := hcb 3 (by decide)
      rw [flat_getD tpL 4 tpL_len tp0 ps i _ hpl (by decide)] at a0 a1 a2 a3
      rw [flat_getD tpL 4 tpL_len tp0 qs i _ hql (by decide)] at b0 b1 b2 b3
      have hp := HA1.els (ps.getD i tp0) (by simp [hpl])
      have hq := HB1.els (qs.getD i tp0) (by simp [hql])
      have hpm := h64'.out (ps.getD i tp0) (by simp [hpl])
      have heq : (ps.getD i tp0).t = (qs.getD i tp0).t := by
        have := congrArg (fun l => l.getD i tp0.t) he'.out
        simp only [List.getD_eq_getElem?_getD, List.getElem?_map] at this
        simpa [hpl, hql] using this
      generalize ps.getD i tp0 = p at a0 a1 a2 a3 hp heq hpm
      generalize qs.getD i tp0 = q at b0 b1 b2 b3 hq heq
      obtain ⟨t, A1, l1, c1⟩ := p
      obtain ⟨t', A2, l2, c2⟩ := q
      simp only at heq hpm
      subst heq
      have hl12 : l1 = l2 := hp.len.symm.trans hq.len
      subst hl12
      simp only [tpL, List.getD_cons_zero, List.getD_cons_succ] at a0 a1 a2 a3 b0 b1 b2 b3
      replace a0 : wr.cell? ⟨g, o + i * 4, none⟩ = some (.int .i64 t.kind) := a0
      replace b0 : wr.cell? ⟨g2, o2 + i * 4, none⟩ = some (.int .i64 t.kind) := b0
      have HP := hid hp
      have HQ := hid hq
      clear hca hcb hp hq HA1 HB1 hpl hql
      have hi0 : (0 : Int) ≤ (i : Int) := by omega
      have hin' : (i : Int) < (n : Int) := by omega
      go_wp2_with fail
      go_quiet (fail)
      go_wp2_with fail
      obtain ⟨wo, rfl⟩ : ∃ wo : World, wo = wr := ⟨_, rfl⟩
      go_loopw [6] (fun jv wr => SmIn wo l1 jv wr) (fun jv _ => l1 - (intOf jv).toNat)
      case atStart => exact ⟨0, Nat.zero_le _, rfl, (Chg.refl _ _).drewN _⟩
      case round =>
        obtain ⟨j, hj, rfl, hcj⟩ := hrel
        have a3' : wr.cell? ⟨g, o + i * 4 + 3, none⟩ = some (.slice A1 l1 c1) := (hcj.cells.1 _ _ hgl).trans a3
        have b3' : wr.cell? ⟨g2, o2 + i * 4 + 3, none⟩ = some (.slice A2 l1 c2) := (hcj.cells.1 _ _ hgl2).trans b3
        clear a0 a1 a2 a3 b0 b1 b2 b3
        rcases Nat.lt_or_ge j l1 with hjl | hjl
        · have HPr := HP.out.row.chg hcj (fun _ _ _ h => h)
          have HQr := HQ.out.row.chg hcj (fun _ _ _ h => h)
          have hjp : j < t.p.length := by rw [HP.out.len]; exact hjl
          obtain ⟨g3, o3, e3, -, hgl3, hcp⟩ := HPr.cell hjl (by decide)
          obtain ⟨g4, o4, e4, -, hgl4, hcq⟩ := HQr.cell hjl (by decide)
          simp only at e3 e4
          subst e3 e4
          have p0 := hcp 0 (by decide)
          have p1 := hcp 1 (by decide)
          have p2 := hcp 2 (by decide)
          have p3 := hcp 3 (by decide)
          have q0 := hcq 0 (by decide)
          have q1 := hcq 1 (by decide)
          have q2 := hcq 2 (by decide)
          have q3 := hcq 3 (by decide)
          rw [flat_getD clsL 4 clsL_len 0 t.p j _ hjp (by decide)] at p0 p1 p2 p3 q0 q1 q2 q3
          generalize t.p.getD j 0 = y at p0 p1 p2 p3 q0 q1 q2 q3
          simp only [clsL, List.getD_cons_zero, List.getD_cons_succ] at p0 p1 p2 p3 q0 q1 q2 q3
          replace p0 : wr.cell? ⟨g3, o3 + j * 4, none⟩ = some (.int .u64 (wd y 0)) := p0
          replace q0 : wr.cell? ⟨g4, o4 + j * 4, none⟩ = some (.int .u64 (wd y 0)) := q0
          have hq := eq_class y y
          rw [decide_eq_true rfl] at hq
          unfold encC at hq
          have hlc := HPr.le
          have hld := HQr.le
          have hmc := HPr.max
          have hmd := HQr.max
          simp only at hlc hld hmc hmd
          clear hcp hcq HPr HQr hjp
          have hj0 : (0 : Int) ≤ (j : Int) := by omega
          have hjl' : (j : Int) < (l1 : Int) := by omega
          go_wp2_with fail
          go_quiet (fail)
          go_wp2
          go_roundw
          case rel => exact ⟨j + 1, hjl, by go_num, hcj.drewN _⟩
          case measure => simp [intOf]; omega
        · have hd : decide ((j : Int) < (l1 : Int)) = false := decide_eq_false (by omega)
          go_wp2
          go_roundw
          case rel => exact ⟨i + 1, hin, by go_num, hchg.trans hcj⟩
          case measure => simp [intOf]; omega
    · have hd : decide ((i : Int) < (n : Int)) = false := decide_eq_false (by omega)
      go_wp2
      go_ret
      exact ⟨rfl, hchg⟩
end Go.Proofs.Ytpndjehiacmngaa
