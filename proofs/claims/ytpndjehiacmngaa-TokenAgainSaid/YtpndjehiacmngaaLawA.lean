/- Layer 13: the law TokenLexes, but for 'alive', which is asked. -/
import Derived.Test.YtpndjehiacmngaaBunG
namespace Go.Proofs.Ytpndjehiacmngaa
open Go.RowKit
set_option linter.unusedVariables false
attribute [local go_sem ↓] Go.wp_at_zero Go.wp_at_succ
theorem lexS_few {s : ByteArray} {R : Rd (List Tok)} (h : lexS s R) : ∀ l b, R = .ok l b → ∀ t ∈ l, t.p.length ≤ 64 := by
  unfold lexS at h
  by_cases hb : 1000 < s.size
  · rw [if_pos hb] at h; intro l b e; rw [h] at e; cases e
  · rw [if_neg hb] at h; exact h.few (by simp)
theorem LexRun.count {s : ByteArray} {a : Nat} {l : List Tok} {R : Rd (List Tok)} (h : LexRun s a l R) : a ≤ s.size → ∀ l' b, R = .ok l' b → l'.length ≤ l.length + (s.size - a) := by
  induction h with
  | stop h => intro ha l' b e; injection e with e1 e2; subst e1; omega
  | blank h hb k ih => intro ha l' b e; have := ih (by omega) l' b e; omega
  | bad h hb k => intro ha l' b e; cases e
  | step h hb k r ih =>
    intro ha l' c e
    have hp := k.placed h
    have h2 := hp.lt rfl
    have h3 := hp.le
    simp only [Rd.at_] at h2 h3
    have := ih h3 l' c e
    rw [List.length_append] at this
    simp only [List.length_cons, List.length_nil] at this
    omega
theorem lexS_count {s : ByteArray} {R : Rd (List Tok)} (h : lexS s R) : ∀ l b, R = .ok l b → l.length ≤ 1000 := by
  unfold lexS at h
  by_cases hb : 1000 < s.size
  · rw [if_pos hb] at h; intro l b e; rw [h] at e; cases e
  · rw [if_neg hb] at h; intro l b e; have := h.count (by omega) l b e; simp at this; omega
theorem lexS_no {s : ByteArray} {R : Rd (List Tok)} (h : lexS s R) : (∀ v nx, R ≠ .ok v nx) → R.no ≠ 0 := by
  unfold lexS at h
  by_cases hb : 1000 < s.size
  · rw [if_pos hb] at h; intro _; rw [h]; simp only [Rd.no]; omega
  · rw [if_neg hb] at h; exact h.placed.2.1
set_option maxHeartbeats 8000000 in
set_option maxRecDepth 100000 in
theorem TokenLexes_of (hal : ∀ w, Calls Try.prog 9 #[] w fun e w' => e = .returned (.bool true) ∧ Chg Nothing w w') (s : ByteArray) (w : World) (hs : s.size ≤ 140737488351232) :
    Calls Try.prog 3 #[.string s] w fun e w' => e = .returned (.bool true) ∧ Chg Nothing w w' := by
  have hal := hid hal
  by_cases hbig : 1100 < s.size
  · have hbi : (1100 : Int) < (s.size : Int) := by omega
    go_enter Try.func3, Try.ntmps3
    go_wp2_with fail
    refine (hal.out _).mono ?_
    rintro e w1 ⟨rfl, hc⟩
    go_wp2
    go_ret
    exact ⟨rfl, hc⟩
  · have hbi : ¬ (1100 : Int) < (s.size : Int) := by omega
    obtain ⟨R, hR⟩ := lexS_total s
    have hat := lexS_at hR
    have hfew := hid (lexS_few hR)
    have hno := hid (lexS_no hR)
    have hcnt := hid (lexS_count hR)
    have hRh := hid hR
    clear hR
    go_enter Try.func3, Try.ntmps3
    go_wp2_with fail
    refine (lex_any s R hRh.out _ (by omega)).mono ?_
    rintro e w1 ⟨A, n, c, ps, rfl, hT, hl, h0, hc1⟩
    have hA := hid hT.read
    have hl1 := hid hl
    have h01 := hid h0
    clear hT hl h0
    go_wp2_with fail
    refine (refLex_any s R hRh.out _ (by omega)).mono ?_
    rintro e w2 ⟨B, m, d, qs, rfl, hT, hl, h0, hc2⟩
    have heq : ps.map TP.t = qs.map TP.t := by
      cases hRR : R with
      | ok l nx => rw [hl1.out l nx hRR, hl l nx hRR]
      | bad p e =>
        have := hno.out (fun v nx h => by rw [hRR] at h; cases h)
        rw [h01.out this, h0 this]
    have hmn : n = m := by
      have h1 := hA.out.len
      have h2 := hT.len
      have := congrArg List.length heq
      simp only [List.length_map] at this
      omega
    subst hmn
    have h64 : ∀ p ∈ ps, p.l ≤ 9223372036854775000 := by
      intro p hp
      have := (hA.out.els p hp).len
      cases hRR : R with
      | ok l nx =>
        have := hfew.out l nx hRR p.t (by rw [← hl1.out l nx hRR]; exact List.mem_map_of_mem hp)
        omega
      | bad q e =>
        have := hno.out (fun v nx h => by rw [hRR] at h; cases h)
        rw [h01.out this] at hp; simp at hp
    have hnn : n ≤ 2000 := by
      have h1 := hA.out.len
      cases hRR : R with
      | ok l nx =>
        have h2 := hcnt.out l nx hRR
        rw [← hl1.out l nx hRR, List.length_map] at h2
        omega
      | bad p e =>
        have := hno.out (fun v nx h => by rw [hRR] at h; cases h)
        rw [h01.out this] at h1; simp at h1; omega
    have hB := hid hT.read
    have hA2 := hid (hA.out.chg hc2 (fun _ _ _ h => h))
    have hC2 := hid (hc1.trans hc2)
    have heqh := hid heq
    have h64h := hid h64
    clear hc1 hc2 hT hl h0 heq h64 hA
    go_wp2_with fail
    refine (hal.out _).mono ?_
    rintro e w3 ⟨rfl, hc3⟩
    have hA3 := hid (hA2.out.chg hc3 (fun _ _ _ h => h))
    have hB3 := hid (hB.out.chg hc3 (fun _ _ _ h => h))
    have hC3 := hid (hC2.out.trans hc3)
    clear hc3 hA2 hB hC2
    go_wp2_with fail
    refine (olds_any _ A n c ps _ hA3.out (by omega)).mono ?_
    rintro e w4 ⟨A', c', rfl, hO, hc4⟩
    have hO4 := hid (hO.chg (Chg.refl Nothing w4) (fun _ _ _ h => h))
    have hB4 := hid (hB3.out.chg hc4 (fun _ _ _ h => h))
    have hC4 := hid (hC3.out.trans hc4)
    clear hc4 hO hA3 hB3 hC3
    go_wp2_with fail
    refine (refSame_yes (fun _ => True) A' n c' ps B d qs _ ⟨hO4.out.len, hO4.out.row.mono (fun _ _ _ => trivial), fun p hp => ⟨(hO4.out.els p hp).row.mono (fun _ _ _ => trivial), (hO4.out.els p hp).len⟩⟩ ⟨hB4.out.len, hB4.out.row.mono (fun _ _ _ => trivial), fun p hp => ⟨(hB4.out.els p hp).row.mono (fun _ _ _ => trivial), (hB4.out.els p hp).len⟩⟩ heqh.out hnn h64h.out).mono ?_
    rintro e w5 ⟨rfl, hc5⟩
    have hat1 : (R.at_ : Int) ≤ (s.size : Int) := by omega
    have hat0 : (0 : Int) ≤ (R.at_ : Int) := by omega
    go_wp2
    go_ret
    exact ⟨rfl, hC4.out.trans hc5⟩
end Go.Proofs.Ytpndjehiacmngaa
