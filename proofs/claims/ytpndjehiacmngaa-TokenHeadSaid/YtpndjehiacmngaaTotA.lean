/- Layer 13: every text is read: the relations are total. -/
import Derived.Test.YtpndjehiacmngaaTokW
namespace Go.Proofs.Ytpndjehiacmngaa
open Go.RowKit
set_option linter.unusedVariables false
theorem ClassRun.total (s : ByteArray) : ∀ (d a : Nat) (x : Cls) (n : Nat), a ≤ s.size → s.size - a ≤ d → ∃ R, ClassRun s a x n R := by
  intro d
  induction d with
  | zero =>
    intro a x n ha hd
    by_cases h : a < s.size ∧ byteAt s a = 93
    · exact ⟨_, .stop h.1 h.2⟩
    · cases h1 : itemS s a with
      | bad p e => exact ⟨_, .bad1 h h1⟩
      | ok v b => have := itemS_ok h1; omega
  | succ d ih =>
    intro a x n ha hd
    by_cases h : a < s.size ∧ byteAt s a = 93
    · exact ⟨_, .stop h.1 h.2⟩
    · cases h1 : itemS s a with
      | bad p e => exact ⟨_, .bad1 h h1⟩
      | ok v b =>
        have hb := itemS_ok h1
        by_cases h2 : b < s.size ∧ byteAt s b = 45
        · cases h3 : itemS s (b + 1) with
          | bad p e => exact ⟨_, .bad2 h h1 h2 h3⟩
          | ok u c =>
            have hc := itemS_ok h3
            by_cases h4 : u < v
            · exact ⟨_, .less h h1 h2 h3 h4⟩
            · obtain ⟨R, hR⟩ := ih c (x ||| rangeC v u) (n + 1) hc.2.1 (by omega)
              exact ⟨R, .two h h1 h2 h3 h4 hR⟩
        · obtain ⟨R, hR⟩ := ih b (x ||| rangeC v v) (n + 1) hb.2.1 (by omega)
          exact ⟨R, .one h h1 h2 hR⟩
theorem ElemRd.total (s : ByteArray) (a : Nat) (ha : a < s.size) : ∃ R, ElemRd s a R := by
  by_cases h : byteAt s a = 63
  · exact ⟨_, .full h⟩
  · by_cases h' : byteAt s a = 91
    · obtain ⟨R, hR⟩ := ClassRun.total s (s.size) (beginS s a) 0 0 (beginS_le s a ha).2 (by omega)
      exact ⟨_, .cls h' hR⟩
    · exact ⟨_, .byte h h'⟩
theorem PatRun.total (s : ByteArray) : ∀ (d a : Nat) (xs : List Cls), a ≤ s.size → s.size - a ≤ d → ∃ R, PatRun s a xs R := by
  intro d
  induction d with
  | zero => intro a xs ha hd; exact ⟨_, .stop (by omega)⟩
  | succ d ih =>
    intro a xs ha hd
    rcases Nat.lt_or_ge a s.size with h | h
    · by_cases hb : byteAt s a = 34
      · rcases Nat.eq_zero_or_pos xs.length with h1 | h1
        · exact ⟨_, .empty h hb h1⟩
        · exact ⟨_, .close h hb h1⟩
      · by_cases h1 : xs.length = 64
        · exact ⟨_, .long h hb h1⟩
        · obtain ⟨R, hR⟩ := ElemRd.total s a h
          cases R with
          | bad p e => exact ⟨_, .bad h hb h1 hR⟩
          | ok x b =>
            have hp := hR.placed h
            have h2 := hp.lt rfl
            have h3 := hp.le
            simp only [Rd.at_] at h2 h3
            obtain ⟨R, hR'⟩ := ih b (xs ++ [x]) h3 (by omega)
            exact ⟨R, .step h hb h1 hR hR'⟩
    · exact ⟨_, .stop h⟩
theorem DigRun.total (s : ByteArray) : ∀ (d a : Nat), a ≤ s.size → s.size - a ≤ d → ∃ m, DigRun s a m := by
  intro d
  induction d with
  | zero => intro a ha hd; exact ⟨0, fun j hj => by omega, by unfold isDig; omega⟩
  | succ d ih =>
    intro a ha hd
    by_cases h : isDig s a
    · have hs : a < s.size := h.1
      obtain ⟨m, hm⟩ := ih (a + 1) (by omega) (by omega)
      refine ⟨m + 1, fun j hj => ?_, by rw [show a + (m + 1) = a + 1 + m from by omega]; exact hm.no⟩
      cases j with
      | zero => exact h
      | succ j => rw [show a + (j + 1) = a + 1 + j from by omega]; exact hm.yes j (by omega)
    · exact ⟨0, fun j hj => by omega, h⟩
theorem TokRd.total (s : ByteArray) (a : Nat) (ha : a < s.size) : ∃ R, TokRd s a R := by
  by_cases h : byteAt s a = 34
  · obtain ⟨R, hR⟩ := PatRun.total s s.size (a + 1) [] (by omega) (by omega)
    exact ⟨_, .pat h hR⟩
  · by_cases h1 : kindV (byteAt s a) < 1
    · exact ⟨_, .none h h1⟩
    · obtain ⟨k, hk⟩ : ∃ k : Nat, kindV (byteAt s a) = k := ⟨(kindV (byteAt s a)).toNat, by omega⟩
      rcases Nat.lt_or_ge k 6 with h2 | h2
      · exact ⟨_, .sign h hk (by omega) h2⟩
      · obtain ⟨m, hm⟩ := DigRun.total s s.size (a + 1) (by omega) (by omega)
        exact ⟨_, .num h hk h2 hm⟩
theorem LexRun.total (s : ByteArray) : ∀ (d a : Nat) (l : List Tok), a ≤ s.size → s.size - a ≤ d → ∃ R, LexRun s a l R := by
  intro d
  induction d with
  | zero => intro a l ha hd; exact ⟨_, .stop (by omega)⟩
  | succ d ih =>
    intro a l ha hd
    rcases Nat.lt_or_ge a s.size with h | h
    · by_cases hb : byteAt s a = 32
      · obtain ⟨R, hR⟩ := ih (a + 1) l (by omega) (by omega)
        exact ⟨R, .blank h hb hR⟩
      · obtain ⟨R, hR⟩ := TokRd.total s a h
        cases R with
        | bad p e => exact ⟨_, .bad h hb hR⟩
        | ok t b =>
          have hp := hR.placed h
          have h2 := hp.lt rfl
          have h3 := hp.le
          simp only [Rd.at_] at h2 h3
          obtain ⟨R, hR'⟩ := ih b (l ++ [t]) h3 (by omega)
          exact ⟨R, .step h hb hR hR'⟩
    · exact ⟨_, .stop h⟩
theorem lexS_total (s : ByteArray) : ∃ R, lexS s R := by
  unfold lexS
  by_cases h : 1000 < s.size
  · simp only [if_pos h]; exact ⟨_, rfl⟩
  · simp only [if_neg h]; exact LexRun.total s s.size 0 [] (by omega) (by omega)
theorem lexS_at {s : ByteArray} {R : Rd (List Tok)} (h : lexS s R) : R.at_ ≤ s.size := by
  unfold lexS at h
  by_cases hb : 1000 < s.size
  · rw [if_pos hb] at h; rw [h]; simp only [Rd.at_]; omega
  · rw [if_neg hb] at h; exact h.placed.1
theorem TokRd.few {s : ByteArray} {a : Nat} {R : Rd Tok} (h : TokRd s a R) : ∀ t b, R = .ok t b → t.p.length ≤ 64 := by
  cases h with
  | @pat R0 h k =>
    intro t b e
    cases R0 with
    | ok ys n => injection e with e1 e2; subst e1; exact (k.len (by simp) ys n rfl).1
    | bad p e' => cases e
  | none => intro t b e; cases e
  | sign => intro t b e; injection e with e1 e2; subst e1; simp
  | @num k m h h1 h2 h3 =>
    intro t b e
    cases hR : numS s (a + 1) m with
    | ok v n => rw [hR] at e; injection e with e1 e2; subst e1; simp
    | bad p e' => rw [hR] at e; cases e
/-- No pattern has more than 64 elements. -/
theorem LexRun.few {s : ByteArray} {a : Nat} {l : List Tok} {R : Rd (List Tok)} (h : LexRun s a l R) : (∀ t ∈ l, t.p.length ≤ 64) → ∀ l' b, R = .ok l' b → ∀ t ∈ l', t.p.length ≤ 64 := by
  induction h with
  | stop h => intro hl l' b e; injection e with e1 e2; subst e1; exact hl
  | blank h hb k ih => exact ih
  | bad h hb k => intro hl l' b e; cases e
  | step h hb k r ih =>
    intro hl
    refine ih ?_
    intro t ht
    rw [List.mem_append] at ht
    rcases ht with ht | ht
    · exact hl t ht
    · simp only [List.mem_singleton] at ht
      subst ht
      exact k.few _ _ rfl
end Go.Proofs.Ytpndjehiacmngaa
