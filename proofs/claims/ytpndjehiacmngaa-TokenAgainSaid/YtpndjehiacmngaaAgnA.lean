/- Layer 13: the law TokenAgain. -/
import Derived.Test.YtpndjehiacmngaaReadC
import Derived.Test.YtpndjehiacmngaaRefI
import Derived.Test.YtpndjehiacmngaaLawA
import Derived.Test.YtpndjehiacmngaaPrtA
namespace Go.Proofs.Ytpndjehiacmngaa
open Go.RowKit
set_option linter.unusedVariables false
attribute [local go_sem ↓] Go.wp_at_zero Go.wp_at_succ
def AgInv (w : World) (n : Nat) (ps : List TP) (iv sv : Value) (wr : World) : Prop :=
  ∃ (k : Nat) (s : ByteArray) (l : List Tok), k ≤ n ∧ iv = .int .i64 k ∧ sv = .string s ∧ Hid (TextRun s l) ∧ Hid (l.map (fun t => (t.kind, t.n, t.p)) = (ps.take k).map fun p => (p.t.kind, p.t.n, p.t.p)) ∧ s.size ≤ k * 2000010 ∧ Chg Nothing w wr
def AgIn (w : World) (n : Nat) (iv : Value) (wr : World) : Prop := ∃ k : Nat, k ≤ n ∧ iv = .int .i64 k ∧ Chg Nothing w wr
set_option maxHeartbeats 16000000 in
set_option maxRecDepth 100000 in
theorem TokenAgain_walk (s : ByteArray) (w : World) (hs : s.size ≤ 140737488351232) :
    Calls Try.prog 7 #[.string s] w fun e w' => e = .returned (.bool true) ∧ Chg Nothing w w' := by
  obtain ⟨R, hR⟩ := lexS_total s
  have hRh := hid hR
  cases R with
  | bad p e =>
    have hno : (e != 0) = true := by
      rw [bne_iff_ne]
      have := lexS_no hR (fun v nx h => by cases h)
      exact this
    clear hR
    go_enter Try.func7, Try.ntmps7
    go_wp2_with fail
    refine (lex_any s _ hRh.out _ (by omega)).mono ?_
    rintro e' w1 ⟨A, n, c, ps, rfl, -, -, -, hc1⟩
    simp only [Rd.at_, Rd.no]
    have hC1 := hid hc1
    clear hc1
    go_wp2_with fail
    refine (alive_any _).mono ?_
    rintro e w2 ⟨rfl, hc2⟩
    go_wp2
    go_ret
    exact ⟨rfl, hC1.out.trans hc2⟩
  | ok l nx =>
    by_cases hbig : 1000 < s.size
    · exfalso; unfold lexS at hR; rw [if_pos hbig] at hR; cases hR
    have hbi : ¬ (1000 : Int) < (s.size : Int) := by omega
    have hpr := hid (lexS_printable hR)
    have hcnt := hid (lexS_count hR l nx rfl)
    have hfew := hid (lexS_few hR l nx rfl)
    clear hR
    go_enter Try.func7, Try.ntmps7
    go_wp2_with fail
    refine (lex_any s _ hRh.out _ (by omega)).mono ?_
    rintro e' w1 ⟨A, n, c, ps, rfl, hT, hl, -, hc1⟩
    have hps := hid (hl _ _ rfl)
    have hTR := hid hT.read.top
    have hn : n ≤ 1000 := by have h1 := hT.len; have h2 := congrArg List.length hps.out; simp only [List.length_map] at h2; have := hcnt.out; omega
    have hle := hT.read.row.le
    have hmx := hT.read.row.max
    have hplen := hid hT.len
    have hC1 := hid hc1
    simp only [Rd.at_, Rd.no]
    clear hT hl hc1
    go_wp2_with fail
    go_loopw [31, 6] (fun iv sv wr => AgInv w1 n ps iv sv wr) (fun iv _ _ => n - (intOf iv).toNat)
    case atStart => exact ⟨0, _, [], Nat.zero_le _, rfl, rfl, hid .nil, hid rfl, by decide, Chg.refl _ _⟩
    case round =>
      obtain ⟨k, t, lt, hk, rfl, rfl, htr, hlt, hts, hchg⟩ := hrel
      rcases Nat.lt_or_ge k n with hkn | hkn
      · have HR := hTR.out.chg hchg (fun _ _ _ h => h)
        have hkl : k < ps.length := by rw [hplen.out]; exact hkn
        obtain ⟨g, o, rfl, -, hgl, hca⟩ := HR.row.cell hkn (by decide)
        have a0 := hca 0 (by decide)
        have a1 := hca 1 (by decide)
        have a2 := hca 2 (by decide)
        have a3 := hca 3 (by decide)
        rw [flat_getD tpL 4 tpL_len tp0 ps k _ hkl (by decide)] at a0 a1 a2 a3
        have hTe := HR.els (ps.getD k tp0) (by simp [hkl])
        have htk := hid (take_getD ps k hkl)
        have hpk := hpr.out (ps.getD k tp0).t (by rw [← hps.out]; exact List.mem_map_of_mem (by simp [hkl]))
        generalize ps.getD k tp0 = p at a0 a1 a2 a3 hTe htk hpk
        obtain ⟨⟨kk, at_, mm, xs⟩, tA, tl, tc⟩ := p
        simp only [tpL, List.getD_cons_zero, List.getD_cons_succ] at a0 a1 a2 a3
        replace a0 : wr.cell? ⟨g, o + k * 4, none⟩ = some (.int .i64 kk) := a0
        have hxl := hid (show xs.length = tl from hTe.len)
        have hTr := hid (fun w' (hc : Chg Nothing wr w') => (hTe.row.chg hc (fun _ _ _ h => h) : ClsRow (fun _ => True) w' tA tl tc xs))
        clear hca HR hkl hTe hgl
        obtain ⟨u, hp⟩ := hpk
        replace hp : printS (kk : Int) (mm : Int) xs = some u := hp
        have hus := printS_size hp
        have h2 := hid (fun w h => by have := tokPrint_any _ kk at_ mm tA tl tc xs w h hxl.out; rw [printV_some _ _ _ _ hp] at this; exact this : ∀ w, ClsRow (fun _ => True) w tA tl tc xs → Calls Try.prog 16 #[.agg #[.int .i64 kk, .int .i64 at_, .int .i64 mm, .slice tA tl tc]] w fun e w' => e = .returned (.tuple #[.string u, .bool true]) ∧ Chg Nothing w w')
        have htr2 := hid (TextRun.blank (TextRun.tok htr.out hp))
        rw [Int.toNat_natCast, Int.toNat_natCast, ByteArray.append_assoc] at htr2
        replace hp := hid hp
        have hk0 : (0 : Int) ≤ (k : Int) := by omega
        have hkn' : (k : Int) < (n : Int) := by omega
        go_wp2_with fail
        refine (h2.out _ (hTr.out _ ((Chg.refl Nothing wr).alloc _))).mono ?_
        rintro e w3 ⟨rfl, hc3⟩
        have hC3 := hid ((hchg.alloc (.cells #[.int .i64 kk, .int .i64 at_, .int .i64 mm, .slice tA tl tc] 40)).trans hc3)
        clear hc3 hchg a0 a1 a2 a3
        go_wp2
        go_roundw
        case rel =>
          refine ⟨k + 1, _, _, hkn, by go_num, rfl, htr2, hid ?_, ?_, hC3.out⟩
          · rw [htk.out, List.map_append, List.map_append, hlt.out]; rfl
          · rw [ByteArray.size_append, ByteArray.size_append]; have : (⟨#[32]⟩ : ByteArray).size = 1 := rfl; omega
        case measure => simp [intOf]; omega
      · have hd : decide ((k : Int) < (n : Int)) = false := decide_eq_false (by omega)
        have hkn' : k = n := by omega
        subst hkn'
        have hts2 : t.size ≤ 2000010000 := by omega
        by_cases hbig2 : 1000 < t.size
        · have hbi2 : (1000 : Int) < (t.size : Int) := by omega
          go_wp2_with fail
          refine (alive_any _).mono ?_
          rintro e w2 ⟨rfl, hc2⟩
          go_wp2
          go_ret
          exact ⟨rfl, (hC1.out.trans hchg).trans hc2⟩
        · have hbi2 : ¬ (1000 : Int) < (t.size : Int) := by omega
          have hL := hid (htr.out.lex (by omega))
          have hC2 := hid (hC1.out.trans hchg)
          have hTR2 := hid (hTR.out.chg hchg (fun _ _ _ h => h))
          clear hchg htr
          go_wp2_with fail
          refine (lex_any t _ hL.out _ (by omega)).mono ?_
          rintro e w3 ⟨B, m, d, qs, rfl, hT, hlq, -, hc3⟩
          have hqs := hid (hlq _ _ rfl)
          simp only [Rd.at_, Rd.no]
          have hsame := hid (show qs.map (fun p => (p.t.kind, p.t.n, p.t.p)) = ps.map (fun p => (p.t.kind, p.t.n, p.t.p)) from by
            have h1 : qs.map (fun p => (p.t.kind, p.t.n, p.t.p)) = (qs.map TP.t).map (fun t => (t.kind, t.n, t.p)) := by rw [List.map_map]; rfl
            rw [h1, hqs.out, hlt.out, List.take_of_length_le (by rw [hplen.out]; exact Nat.le_refl _)])
          have hmk : m = k := by have h1 := hT.len; have h2 := congrArg List.length hsame.out; simp only [List.length_map] at h2; have := hplen.out; omega
          subst hmk
          have hTQ := hid hT.read.top
          have hle2 := hT.read.row.le
          have hmx2 := hT.read.row.max
          have hqlen := hid hT.len
          have hTR3 := hid (hTR2.out.chg hc3 (fun _ _ _ h => h))
          have hC3 := hid (hC2.out.trans hc3)
          clear hc3 hT hlq hlt
          go_wp2_with fail
          go_loopw [68] (fun iv wr => AgIn w3 m iv wr) (fun iv _ => m - (intOf iv).toNat)
          case atStart => exact ⟨0, Nat.zero_le _, rfl, Chg.refl _ _⟩
          case round =>
            obtain ⟨i, hi, rfl, hchg⟩ := hrel
            rcases Nat.lt_or_ge i m with him | him
            · have HP := hTR3.out.chg hchg (fun _ _ _ h => h)
              have HQ := hTQ.out.chg hchg (fun _ _ _ h => h)
              have hpl : i < ps.length := by rw [hplen.out]; exact him
              have hql : i < qs.length := by rw [hqlen.out]; exact him
              obtain ⟨g, o, e1, -, hgl, hca⟩ := HP.row.cell him (by decide)
              obtain ⟨g2, o2, e2, -, hgl2, hcb⟩ := HQ.row.cell him (by decide)
              subst e1 e2
              have a0 := hca 0 (by decide)
              have a2 := hca 2 (by decide)
              have a3 := hca 3 (by decide)
              have b0 := hcb 0 (by decide)
              have b2 := hcb 2 (by decide)
              have b3 := hcb 3 (by decide)
              rw [flat_getD tpL 4 tpL_len tp0 ps i _ hpl (by decide)] at a0 a2 a3
              rw [flat_getD tpL 4 tpL_len tp0 qs i _ hql (by decide)] at b0 b2 b3
              have hp := HP.els (ps.getD i tp0) (by simp [hpl])
              have hq := HQ.els (qs.getD i tp0) (by simp [hql])
              have heq : ((qs.getD i tp0).t.kind, (qs.getD i tp0).t.n, (qs.getD i tp0).t.p) = ((ps.getD i tp0).t.kind, (ps.getD i tp0).t.n, (ps.getD i tp0).t.p) := by
                have := congrArg (fun l => l.getD i (0, 0, [])) hsame.out
                simp only [List.getD_eq_getElem?_getD, List.getElem?_map] at this
                simpa [hpl, hql] using this
              generalize ps.getD i tp0 = p at a0 a2 a3 hp heq
              generalize qs.getD i tp0 = q at b0 b2 b3 hq heq
              obtain ⟨⟨kk, at1, mm, xs⟩, A1, l1, c1⟩ := p
              obtain ⟨⟨kk2, at2, mm2, ys⟩, A2, l2, c2⟩ := q
              simp only [Prod.mk.injEq] at heq
              obtain ⟨rfl, rfl, rfl⟩ := heq
              simp only [tpL, List.getD_cons_zero, List.getD_cons_succ] at a0 a2 a3 b0 b2 b3
              replace a0 : wr.cell? ⟨g, o + i * 4, none⟩ = some (.int .i64 kk2) := a0
              replace b0 : wr.cell? ⟨g2, o2 + i * 4, none⟩ = some (.int .i64 kk2) := b0
              have hcl := hid (fun (n : Calm wr) => by
                have := refClasses_any _ _ A2 l2 c2 ys A1 l1 c1 ys n.val (hq.row.chg n.chg (fun _ _ _ h => h)) hq.len (hp.row.chg n.chg (fun _ _ _ h => h)) hp.len
                rw [decide_eq_true rfl] at this
                exact this)
              replace a0 := Calm.cell hgl a0
              replace a2 := Calm.cell hgl a2
              replace a3 := Calm.cell hgl a3
              replace b0 := Calm.cell hgl2 b0
              replace b2 := Calm.cell hgl2 b2
              replace b3 := Calm.cell hgl2 b3
              clear hca hcb hp hq HP HQ hpl hql hgl hgl2
              have hi0 : (0 : Int) ≤ (i : Int) := by omega
              have him' : (i : Int) < (m : Int) := by omega
              go_wp2_with fail
              try simp only [List.append_eq, List.cons_append, List.nil_append]
              refine wp_region_calm_lit (by kernel_rfl) (by kernel_rfl) ?_
              repeat (go_big_quiet_step (((go_at_call 18; exact calm_of (hcl.out _)))))
              refine wpQuiet_nil ?_
              intro _ hw'
              obtain ⟨nq, hw''⟩ := hw'
              subst hw''
              go_wp2
              go_roundw
              case rel => exact ⟨i + 1, him, by go_num, hchg.trans nq.chg⟩
              case measure => simp [intOf]; omega
            · have hd : decide ((i : Int) < (m : Int)) = false := decide_eq_false (by omega)
              go_wp2_with fail
              refine (alive_any _).mono ?_
              rintro e w5 ⟨rfl, hc5⟩
              go_wp2
              go_ret
              exact ⟨rfl, (hC3.out.trans hchg).trans hc5⟩
end Go.Proofs.Ytpndjehiacmngaa
