/- Layer 13: the law TokenPrints. -/
import Derived.Test.YtpndjehiacmngaaElmA
import Derived.Deep.RegionWith
namespace Go.Proofs.Ytpndjehiacmngaa
open Go.RowKit
set_option linter.unusedVariables false
attribute [local go_sem ↓] Go.wp_at_zero Go.wp_at_succ
theorem printV_none (kd n : Int) (xs : List Cls) (h : printS kd n xs = none) : printV (printS kd n xs) = #[.string ByteArray.empty, .bool false] := by rw [h]; rfl
theorem printV_some (kd n : Int) (xs : List Cls) (u : ByteArray) (h : printS kd n xs = some u) : printV (printS kd n xs) = #[.string u, .bool true] := by rw [h]; rfl
theorem printS_size {kd n : Int} {xs : List Cls} {u : ByteArray} (h : printS kd n xs = some u) : u.size ≤ 2000000 := by
  by_cases ho : kd < 1 ∨ 8 < kd ∨ n < 0 ∨ 1000000 < n
  · rw [printS_out ho] at h; cases h
  rw [printS_in ho] at h
  by_cases hk : kd = 8
  · rw [if_pos hk] at h
    by_cases hc : n = 0 ∧ rightB xs 0 = true
    · rw [if_pos hc] at h
      injection h with h
      have hr := hc.2
      unfold rightB at hr
      have hr := of_decide_eq_true hr
      have h1 := elemsT_size xs ⟨#[34]⟩
      have z1 : (⟨#[34]⟩ : ByteArray).size = 1 := rfl
      rw [← h, ByteArray.size_append, z1]
      unfold elemsT; omega
    · rw [if_neg hc] at h; cases h
  · rw [if_neg hk] at h
    have hss : ∀ kd, (sgnS kd).size ≤ 7 := by intro kd; unfold sgnS; simp; have : signSet.size = 7 := rfl; omega
    split at h
    · cases h
    · split at h
      · injection h with h
        have h1 := decS_size n.toNat
        have h2 := hss kd
        rw [← h, ByteArray.size_append]; omega
      · split at h
        · injection h with h; rw [← h]; have := hss kd; omega
        · cases h
theorem TRead.top {F : Nat → Prop} {w : World} {A : Option Addr} {n c : Nat} {ps : List TP} (h : TRead F w A n c ps) : TRead (fun _ => True) w A n c ps :=
  ⟨h.len, h.row.mono (fun _ _ _ => trivial), fun p hp => ⟨(h.els p hp).row.mono (fun _ _ _ => trivial), (h.els p hp).len⟩⟩
/-- A row of one token, laid out of its cells. -/
theorem one_read {w : World} {b : Nat} {k m l c : Nat} {A : Option Addr} {xs : List Cls} {T : TypeId} (hB : Blk w b #[.int .i64 k, .int .i64 0, .int .i64 m, .slice A l c] T) (H : ClsRow (fun _ => True) w A l c xs) (hl : xs.length = l) :
    TRead (fun _ => True) w (some ⟨b, 0, none⟩) 1 1 [⟨⟨k, 0, m, xs⟩, A, l, c⟩] := by
  refine ⟨rfl, ⟨(fun h => by cases h), Nat.le_refl _, by decide, rfl, fun _ => ⟨b, 0, rfl, trivial, hB.lt, fun j hj => ?_⟩⟩, fun p hp => ?_⟩
  · rw [Nat.zero_add]
    have hj4 : j < 4 := hj
    match j, hj4 with
    | 0, _ => exact hB.cell 0 rfl
    | 1, _ => exact hB.cell 1 rfl
    | 2, _ => exact hB.cell 2 rfl
    | 3, _ => exact hB.cell 3 rfl
  · simp only [List.mem_singleton] at hp
    subst hp
    exact ⟨H, hl⟩
set_option maxHeartbeats 8000000 in
set_option maxRecDepth 100000 in
theorem TokenPrints_walk (kd at_ n : Int) (A : Option Addr) (l c : Nat) (xs : List Cls) (w : World) (H : ClsRow (fun _ => True) w A l c xs) (hl : xs.length = l) :
    Calls Try.prog 5 #[.agg #[.int .i64 kd, .int .i64 at_, .int .i64 n, .slice A l c]] w fun e w' => e = .returned (.bool true) ∧ Chg Nothing w w' := by
  have hX := Blk.new w #[.int .i64 kd, .int .i64 at_, .int .i64 n, .slice A l c] 42
  have x0 := hX.cell 0 rfl
  have x1 := hX.cell 1 rfl
  have x2 := hX.cell 2 rfl
  have x3 := hX.cell 3 rfl
  have hlx := hX.lt
  have HX := hid hX
  have hlh := hid hl
  have hmx := H.max
  have H0 := hid (fun w' (hc : Chg Nothing w w') => H.chg hc (fun _ _ _ h => h))
  clear H hX
  by_cases hbig : 100 < l
  · have hb : (100 : Int) < (l : Int) := by omega
    clear hl
    go_enter Try.func5, Try.ntmps5
    go_wp2_with fail
    refine (alive_any _).mono ?_
    rintro e w4 ⟨rfl, hc4⟩
    go_wp2
    go_ret
    exact ⟨rfl, ((Chg.refl Nothing w).alloc _).trans hc4⟩
  have hb : ¬ (100 : Int) < (l : Int) := by omega
  clear hl
  cases hp : printS kd n xs with
  | none =>
    have h1 := hid (fun w h => by have := tokPrint_any _ kd at_ n A l c xs w h hlh.out; rw [printV_none _ _ _ hp] at this; exact this : ∀ w, ClsRow (fun _ => True) w A l c xs → Calls Try.prog 16 #[.agg #[.int .i64 kd, .int .i64 at_, .int .i64 n, .slice A l c]] w fun e w' => e = .returned (.tuple #[.string ByteArray.empty, .bool false]) ∧ Chg Nothing w w')
    have h2 := hid (fun w h => by have := refPrint_any _ kd at_ n A l c xs w h hlh.out; rw [printV_none _ _ _ hp] at this; exact this : ∀ w, ClsRow (fun _ => True) w A l c xs → Calls Try.prog 17 #[.agg #[.int .i64 kd, .int .i64 at_, .int .i64 n, .slice A l c]] w fun e w' => e = .returned (.tuple #[.string ByteArray.empty, .bool false]) ∧ Chg Nothing w w')
    replace hp := hid hp
    go_enter Try.func5, Try.ntmps5
    go_wp2_with fail
    refine (h1.out _ (H0.out _ ((Chg.refl Nothing w).alloc _))).mono ?_
    rintro e w1 ⟨rfl, hc1⟩
    have q0 := (hc1.cells.1 _ _ hlx).trans x0
    have q1 := (hc1.cells.1 _ _ hlx).trans x1
    have q2 := (hc1.cells.1 _ _ hlx).trans x2
    have q3 := (hc1.cells.1 _ _ hlx).trans x3
    have hC1 := hid (((Chg.refl Nothing w).alloc _).trans hc1)
    clear hc1 x0 x1 x2 x3 hlx
    go_wp2_with fail
    refine (h2.out _ (H0.out _ hC1.out)).mono ?_
    rintro e w2 ⟨rfl, hc2⟩
    have hC2 := hid (hC1.out.trans hc2)
    clear hc2 q0 q1 q2 q3
    go_wp2_with fail
    refine (alive_any _).mono ?_
    rintro e w4 ⟨rfl, hc4⟩
    go_wp2
    go_ret
    exact ⟨rfl, hC2.out.trans hc4⟩
  | some u =>
    have h1 := hid (fun w h => by have := tokPrint_any _ kd at_ n A l c xs w h hlh.out; rw [printV_some _ _ _ _ hp] at this; exact this : ∀ w, ClsRow (fun _ => True) w A l c xs → Calls Try.prog 16 #[.agg #[.int .i64 kd, .int .i64 at_, .int .i64 n, .slice A l c]] w fun e w' => e = .returned (.tuple #[.string u, .bool true]) ∧ Chg Nothing w w')
    have h2 := hid (fun w h => by have := refPrint_any _ kd at_ n A l c xs w h hlh.out; rw [printV_some _ _ _ _ hp] at this; exact this : ∀ w, ClsRow (fun _ => True) w A l c xs → Calls Try.prog 17 #[.agg #[.int .i64 kd, .int .i64 at_, .int .i64 n, .slice A l c]] w fun e w' => e = .returned (.tuple #[.string u, .bool true]) ∧ Chg Nothing w w')
    have hus := printS_size hp
    by_cases hbu : 1000 < u.size
    · have hbi : (1000 : Int) < (u.size : Int) := by omega
      replace hp := hid hp
      go_enter Try.func5, Try.ntmps5
      go_wp2_with fail
      refine (h1.out _ (H0.out _ ((Chg.refl Nothing w).alloc _))).mono ?_
      rintro e w1 ⟨rfl, hc1⟩
      have q0 := (hc1.cells.1 _ _ hlx).trans x0
      have q1 := (hc1.cells.1 _ _ hlx).trans x1
      have q2 := (hc1.cells.1 _ _ hlx).trans x2
      have q3 := (hc1.cells.1 _ _ hlx).trans x3
      have hC1 := hid (((Chg.refl Nothing w).alloc _).trans hc1)
      clear hc1 x0 x1 x2 x3 hlx
      go_wp2_with fail
      refine (h2.out _ (H0.out _ hC1.out)).mono ?_
      rintro e w2 ⟨rfl, hc2⟩
      have hC2 := hid (hC1.out.trans hc2)
      clear hc2 q0 q1 q2 q3
      go_wp2_with fail
      refine (alive_any _).mono ?_
      rintro e w4 ⟨rfl, hc4⟩
      go_wp2
      go_ret
      exact ⟨rfl, hC2.out.trans hc4⟩
    · have hbi : ¬ (1000 : Int) < (u.size : Int) := by omega
      have hL := hid (lexS_print hp (by omega))
      obtain ⟨k, m, rfl, rfl⟩ : ∃ k m : Nat, kd = k ∧ n = m := by
        have hr := tok_read hp (At.self u) (by unfold isDig; omega)
        exact ⟨kd.toNat, n.toNat, by omega, by omega⟩
      rw [Int.toNat_natCast, Int.toNat_natCast] at hL
      replace hp := hid hp
      go_enter Try.func5, Try.ntmps5
      go_wp2_with fail
      refine (h1.out _ (H0.out _ ((Chg.refl Nothing w).alloc _))).mono ?_
      rintro e w1 ⟨rfl, hc1⟩
      have q0 := (hc1.cells.1 _ _ hlx).trans x0
      have q1 := (hc1.cells.1 _ _ hlx).trans x1
      have q2 := (hc1.cells.1 _ _ hlx).trans x2
      have q3 := (hc1.cells.1 _ _ hlx).trans x3
      have hB1 := hid (HX.out.chg hc1 id)
      have hC1 := hid (((Chg.refl Nothing w).alloc _).trans hc1)
      clear hc1 x0 x1 x2 x3 hlx
      go_wp2_with fail
      refine (h2.out _ (H0.out _ hC1.out)).mono ?_
      rintro e w2 ⟨rfl, hc2⟩
      have hB2 := hid (hB1.out.chg hc2 id)
      have hC2 := hid (hC1.out.trans hc2)
      have f1 := hB2.out.free 1
      have z1 := hB2.out.cell 1 rfl
      clear hc2 q0 q1 q2 q3
      have hB3 := hid (hB2.out.set 1 (.int .i64 0))
      have hC3 := hid (hC2.out.setNew (g := w.heap.size) (Nat.le_refl _) 1 (.int .i64 0))
      go_wp2_with fail
      refine (lex_any u _ hL.out _ (by omega)).mono ?_
      rintro e w3 ⟨A1, n1, c1, ps, rfl, hT, hl, -, hc3⟩
      have hps := hl _ _ rfl
      simp only [Rd.at_, Rd.no]
      have hB4 := hB3.out.chg hc3 id
      have hC4 := hid (hC3.out.trans hc3)
      have hglt := hB4.lt
      have y0 := Calm.cell hglt (hB4.cell 0 rfl)
      have y1 := Calm.cell hglt (hB4.cell 1 rfl)
      have y2 := Calm.cell hglt (hB4.cell 2 rfl)
      have y3 := Calm.cell hglt (hB4.cell 3 rfl)
      have hTR := hid (fun (n : Calm w3) => (hT.read.chg n.chg (fun _ _ _ h => h)).top)
      have hn1 : n1 = 1 := by have := hT.len; have h2 := congrArg List.length hps; simp at h2; omega
      have e0 := y0 ⟨_, Chg.refl _ _⟩
      have e1 := y1 ⟨_, Chg.refl _ _⟩
      have e2 := y2 ⟨_, Chg.refl _ _⟩
      have e3 := y3 ⟨_, Chg.refl _ _⟩
      subst hn1
      have hpsh := hid hps
      have h64 := hid (show ∀ p ∈ ps, p.l ≤ 9223372036854775000 from fun p hpm => by
        have h1 := (hT.els p hpm).len
        have h2 : p.t ∈ ps.map TP.t := List.mem_map_of_mem hpm
        rw [hps] at h2
        simp only [List.mem_singleton] at h2
        rw [h2] at h1
        have := hlh.out
        simp only at h1; omega)
      clear hT hl hc3 hB4 hglt z1 f1 hps
      go_wp2_with fail
      have hS := hid (fun (n : Calm w3) => (⟨y0 n, y1 n, y2 n, y3 n⟩ : n.val.cell? ⟨w.heap.size, 0, none⟩ = some (.int .i64 k) ∧ n.val.cell? ⟨w.heap.size, 1, none⟩ = some (.int .i64 0) ∧ n.val.cell? ⟨w.heap.size, 2, none⟩ = some (.int .i64 m) ∧ n.val.cell? ⟨w.heap.size, 3, none⟩ = some (.slice A l c)))
      clear y0 y1 y2 y3
      go_region_held3 (fun w' => w'.cell? ⟨w.heap.size, 0, none⟩ = some (.int .i64 k) ∧ w'.cell? ⟨w.heap.size, 1, none⟩ = some (.int .i64 0) ∧ w'.cell? ⟨w.heap.size, 2, none⟩ = some (.int .i64 m) ∧ w'.cell? ⟨w.heap.size, 3, none⟩ = some (.slice A l c))
        (first | exact hS.out ⟨_, (Chg.refl Nothing w3).drew⟩ | exact hS.out m1 | exact hS.out ⟨_, m1.chg.alloc _⟩ | exact hS.out ⟨_, m1.chg.trans hcy.out⟩ | exact hS.out ⟨_, (m1.chg.alloc _).trans hcy.out⟩ | exact hS.out ⟨_, (m1.chg.trans hcy.out).alloc _⟩ | exact hS.out ⟨_, ((m1.chg.trans hcy.out).alloc _).trans hcz.out⟩ | exact hS.out ⟨_, ((m1.chg.alloc _).trans hcy.out).trans hcz.out⟩)
        (first
        | (go_at_call 9; (with_reducible refine (alive_any _).mono ?_); rintro e w4 ⟨rfl, hcx⟩; obtain ⟨m1, rfl⟩ := Calm.step ((Chg.refl Nothing w3).drew) hcx; clear hcx)
        | (go_at_call 13; (with_reducible refine (olds_any (fun _ => True) A1 1 c1 ps _ (by first | exact hTR.out m1 | exact hTR.out ⟨_, m1.chg.alloc _⟩) (by decide)).mono ?_); rintro e w5 ⟨B, d, rfl, hO, hcx⟩; have hcy := hid hcx; clear hcx)
        | (go_at_call 12; refine (refSame_yes (fun _ => True) B 1 d ps _ 1 [⟨⟨k, 0, m, xs⟩, A, l, c⟩] _ (by first | exact hO.top | exact (hO.chg ((Chg.refl Nothing w5).alloc _) (fun _ _ _ h => h)).top) (by first | exact one_read (Blk.new w5 _ _) (H0.out _ ((hC4.out.trans (m1.chg.trans hcy.out)).alloc _)) hlh.out | exact one_read ((Blk.new m1.val _ _).chg hcy.out id) (H0.out _ (hC4.out.trans ((m1.chg.alloc _).trans hcy.out))) hlh.out) hpsh.out (by decide) h64.out).mono ?_; rintro e w8 ⟨rfl, hcx⟩; have hcz := hid hcx; clear hcx))
      all_goals
        go_wp2
        go_ret
        refine ⟨rfl, ?_⟩
        first | exact hC4.out.trans (((m1.chg.trans hcy.out).alloc _).trans hcz.out) | exact hC4.out.trans (((m1.chg.alloc _).trans hcy.out).trans hcz.out)
end Go.Proofs.Ytpndjehiacmngaa
