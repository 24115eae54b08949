/- Layer 13's laws: Olds; two printed tokens. -/
import Derived.Test.YtpndjehiacmngaaSamA
import Derived.Test.YtpndjehiacmngaaPrnD
namespace Go.Proofs.Ytpndjehiacmngaa
open Go.RowKit
set_option linter.unusedVariables false
attribute [local go_sem ↓] Go.wp_at_zero Go.wp_at_succ
def OlInv (w : World) (n : Nat) (ps : List TP) (ov iv : Value) (wr : World) : Prop :=
  ∃ (i : Nat) (B : Option Addr) (d : Nat), i ≤ n ∧ iv = .int .i64 i ∧ ov = .slice B i d ∧ Hid (wr.ownsRow w.heap.size 42 4 (.slice B i d) i ((ps.take i).flatMap tpL)) ∧ Chg Nothing w wr
theorem take_getD (ps : List TP) (i : Nat) (h : i < ps.length) : ps.take (i + 1) = ps.take i ++ [ps.getD i tp0] := by
  rw [List.take_succ_eq_append_getElem h]; simp [h]
set_option maxHeartbeats 8000000 in
set_option maxRecDepth 100000 in
theorem olds_any (F : Nat → Prop) (A : Option Addr) (n c : Nat) (ps : List TP) (w : World) (HA : TRead F w A n c ps) (hn : n ≤ 100000) :
    Calls Try.prog 13 #[.slice A n c] w fun e w' => ∃ B d, e = .returned (.slice B n d) ∧ TRead (fun k => F k ∨ w.heap.size ≤ k) w' B n d ps ∧ Chg Nothing w w' := by
  have HA' := hid HA
  clear HA
  go_enter Try.func13, Try.ntmps13
  go_wp2_with fail
  go_loopw [3, 8] (fun ov iv wr => OlInv w n ps ov iv wr) (fun _ iv _ => n - (intOf iv).toNat)
  case atStart => exact ⟨0, none, 0, Nat.zero_le _, rfl, rfl, hid (World.ownsRow_nil _ _ _ _), Chg.refl _ _⟩
  case round =>
    obtain ⟨i, B, d, hi, rfl, rfl, HO, hchg⟩ := hrel
    rcases Nat.lt_or_ge i n with hin | hin
    · have HA1 := HA'.out.chg hchg (fun _ _ _ h => h)
      have hpl : i < ps.length := by rw [HA1.len]; exact hin
      obtain ⟨g, o, rfl, -, hgl, hca⟩ := HA1.row.cell hin (by decide)
      have a0 := hca 0 (by decide)
      have a1 := hca 1 (by decide)
      have a2 := hca 2 (by decide)
      have a3 := hca 3 (by decide)
      rw [flat_getD tpL 4 tpL_len tp0 ps i _ hpl (by decide)] at a0 a1 a2 a3
      have htk := hid (take_getD ps i hpl)
      generalize ps.getD i tp0 = p at a0 a1 a2 a3 htk
      obtain ⟨t, A1, l1, c1⟩ := p
      simp only [tpL, List.getD_cons_zero, List.getD_cons_succ] at a0 a1 a2 a3
      replace a0 : wr.cell? ⟨g, o + i * 4, none⟩ = some (.int .i64 t.kind) := a0
      clear hca HA1 hpl
      have hi0 : (0 : Int) ≤ (i : Int) := by omega
      have hin' : (i : Int) < (n : Int) := by omega
      have hsz := hid hchg.size
      go_wp2_with (at_builtin; (refine append_cells (w := wr.alloc _) rfl _ _ 27 rfl w.heap.size 42 (.agg #[.int .i64 0, .int .i64 0, .int .i64 0, .slice none 0 0]) 4 48 Try.underlying27 infoTk rfl (by decide) B d i _ rfl (own_chg HO.out ((Chg.refl Nothing wr).alloc _) (fun _ _ h => h)) (tpL ⟨t, A1, l1, c1⟩) (by rw [World.size_alloc]; rfl) rfl (tpL_one _) ?_ ?_ ?_ ?_))
      · omega
      · omega
      · rw [World.size_alloc]; have := hsz.out; omega
      intro B' d' w6 hown6 hc6 hA
      have hown7 := hid hown6
      have hC7 := hid ((hchg.alloc (.cells #[.int .i64 t.kind, .int .i64 t.at_, .int .i64 t.n, .slice A1 l1 c1] 40)).then hc6 (fun k hk h => by have := own_of HO.out _ h; omega))
      clear hown6 hc6 hA hchg a0 a1 a2 a3
      go_wp2
      go_roundw
      case rel => exact ⟨i + 1, B', d', hin, by go_num, rfl, hid (by rw [htk.out, List.flatMap_append]; simpa using hown7.out), hC7.out⟩
      case measure => simp [intOf]; omega
    · have hd : decide ((i : Int) < (n : Int)) = false := decide_eq_false (by omega)
      have hin' : i = n := by omega
      subst hin'
      have hall := hid (show ps.take i = ps from List.take_of_length_le (by rw [HA'.out.len]; exact Nat.le_refl _))
      rw [hall.out] at HO
      go_wp2
      go_ret
      exact ⟨B, d, rfl, ⟨HA'.out.len, (RowAt.of_own HO.out).mono (fun k _ hF => .inr hF.2), fun p hp => ⟨((HA'.out.els p hp).row.chg hchg (fun _ _ _ h => h)).mono (fun k _ hF => .inl hF), (HA'.out.els p hp).len⟩⟩, hchg⟩
/-- Two printed tokens. -/
theorem print_zero (w : World) : Calls Try.prog 16 #[.agg #[.int .i64 0, .int .i64 0, .int .i64 0, .slice none 0 0]] w fun e w' => e = .returned (.tuple #[.string ByteArray.empty, .bool false]) ∧ Chg Nothing w w' := by
  go_enter Try.func16, Try.ntmps16
  go_wp2
  go_ret2
  exact ⟨rfl, (Chg.refl _ _).alloc _⟩
theorem decS_30 : decS 30 = ⟨#[51, 48]⟩ := by
  rw [decS_more (by decide), decS_few (by decide)]; rfl
theorem digits30 (w : World) : Calls Try.prog 33 #[.int .i64 30] w fun e w' => e = .returned (.string ⟨#[51, 48]⟩) ∧ Chg Nothing w w' := by
  have := tokDigits_any 30 (by decide) w
  rw [decS_30] at this; exact this
set_option maxHeartbeats 4000000 in
set_option maxRecDepth 100000 in
theorem print_shift (w : World) : Calls Try.prog 16 #[.agg #[.int .i64 6, .int .i64 0, .int .i64 30, .slice none 0 0]] w fun e w' => e = .returned (.tuple #[.string ⟨#[62, 51, 48]⟩, .bool true]) ∧ Chg Nothing w w' := by
  have hB := Blk.new w #[.int .i64 6, .int .i64 0, .int .i64 30, .slice none 0 0] 40
  have HB := hid hB
  obtain ⟨t0, t1, t2, t3, u0, u1, u2, u3, hlu⟩ := hB.four
  clear hB
  go_enter Try.func16, Try.ntmps16
  go_wp2_with fail
  go_region_with (first | (go_at_call 33; (with_reducible refine (digits30 _).mono ?_); rintro e w3 ⟨rfl, hcx⟩; have HB3 := hid (Blk.chg (Blk.drew HB.out) hcx id); have x0 := HB3.out.cell 0 rfl; have x2 := HB3.out.cell 2 rfl; have hcy := hid hcx; clear hcx))
  all_goals
    go_wp2
    go_ret2
    exact ⟨rfl, (((Chg.refl Nothing w).alloc _).drew).trans hcy.out⟩
end Go.Proofs.Ytpndjehiacmngaa
