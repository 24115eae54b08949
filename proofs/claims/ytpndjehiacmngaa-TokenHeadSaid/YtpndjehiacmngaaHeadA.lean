/- Layer 13: what is amiss at a place hangs on nothing behind that place: plain words. -/
import Derived.Test.YtpndjehiacmngaaTotA
namespace Go.Proofs.Ytpndjehiacmngaa
open Go.RowKit
set_option linter.unusedVariables false
/-- Two texts that are the same up to a place, which both have. -/
structure Pre (s t : ByteArray) (m : Nat) : Prop where
  hs : m < s.size
  ht : m < t.size
  eq : ∀ k, k ≤ m → byteAt s k = byteAt t k
theorem Pre.esc {s t : ByteArray} {m a v b : Nat} (h : Pre s t m) (e : escS s a = .ok v b) (hb : b ≤ m) : escS t a = .ok v b := by
  obtain ⟨hs, ht, heq⟩ := h
  unfold escS at e ⊢
  by_cases c1 : a + 1 < s.size ∧ inS escSet (byteAt s (a + 1)) = true
  · rw [if_pos c1] at e
    injection e with e1 e2
    rw [if_pos ⟨by omega, by rw [← heq (a + 1) (by omega)]; exact c1.2⟩, ← heq (a + 1) (by omega), e1, e2]
  · rw [if_neg c1] at e
    by_cases c2 : a + 3 < s.size ∧ byteAt s (a + 1) = 120 ∧ 0 ≤ hexV (byteAt s (a + 2)) ∧ 0 ≤ hexV (byteAt s (a + 3))
    · rw [if_pos c2] at e
      injection e with e1 e2
      rw [if_neg, if_pos, ← heq (a + 2) (by omega), ← heq (a + 3) (by omega), e1, e2]
      · exact ⟨by omega, by rw [← heq (a + 1) (by omega)]; exact c2.2.1, by rw [← heq (a + 2) (by omega)]; exact c2.2.2.1, by rw [← heq (a + 3) (by omega)]; exact c2.2.2.2⟩
      · rintro ⟨c3, c4⟩; exact c1 ⟨by omega, by rw [heq (a + 1) (by omega)]; exact c4⟩
    · rw [if_neg c2] at e; cases e
theorem Pre.one {s t : ByteArray} {m a v b : Nat} {ap : ByteArray} {no : Int} (h : Pre s t m) (e : oneS ap no s a = .ok v b) (ha : a < s.size) (hb : b ≤ m) : oneS ap no t a = .ok v b := by
  have hp := oneS_ok e ha
  have ea := h.eq a (by omega)
  unfold oneS at e ⊢
  rw [← ea]
  split at e
  · rename_i c; rw [if_pos c]; exact h.esc e hb
  · rename_i c; rw [if_neg c]
    split at e
    · rename_i c2; rw [if_pos c2]; exact e
    · cases e
theorem Pre.item {s t : ByteArray} {m a v b : Nat} (h : Pre s t m) (e : itemS s a = .ok v b) (hb : b ≤ m) : itemS t a = .ok v b := by
  have hp := itemS_ok e
  unfold itemS at e ⊢
  split at e
  · rename_i c; rw [if_pos (by have := h.ht; omega)]; exact h.one e c hb
  · cases e
theorem Pre.not {s t : ByteArray} {m b x : Nat} (h : Pre s t m) (hb : b ≤ m) (c : ¬ (b < s.size ∧ byteAt s b = x)) : ¬ (b < t.size ∧ byteAt t b = x) := by
  rintro ⟨c1, c2⟩; exact c ⟨by have := h.hs; omega, by rw [h.eq b hb]; exact c2⟩
theorem Pre.yes {s t : ByteArray} {m b x : Nat} (h : Pre s t m) (hb : b ≤ m) (c : b < s.size ∧ byteAt s b = x) : b < t.size ∧ byteAt t b = x :=
  ⟨by have := h.ht; omega, by rw [← h.eq b hb]; exact c.2⟩
theorem Pre.cls {s t : ByteArray} {m a : Nat} {x : Cls} {n : Nat} {R : Rd (Cls × Nat)} (h : Pre s t m) (e : ClassRun s a x n R) : a ≤ s.size → (∃ y b, R = .ok y b ∧ b ≤ m) → ClassRun t a x n R := by
  induction e with
  | stop h1 hb => rintro _ ⟨y, b, e, hle⟩; injection e with e1 e2; exact .stop (by have := h.ht; omega) (by rw [← h.eq _ (by omega)]; exact hb)
  | bad1 h1 h2 => rintro _ ⟨y, b, e, hle⟩; cases e
  | one h1 h2 h3 k ih =>
    rintro _ ⟨y, b, rfl, hle⟩
    have h4 := itemS_ok h2
    have h5 := (k.placed h4.2.1).lt rfl
    simp only [Rd.at_] at h5
    exact .one (h.not (by omega) h1) (h.item h2 (by omega)) (h.not (by omega) h3) (ih h4.2.1 ⟨y, b, rfl, hle⟩)
  | bad2 h1 h2 h3 h4 => rintro _ ⟨y, b, e, hle⟩; cases e
  | less h1 h2 h3 h4 h5 => rintro _ ⟨y, b, e, hle⟩; cases e
  | two h1 h2 h3 h4 h5 k ih =>
    rintro _ ⟨y, b, rfl, hle⟩
    have h6 := itemS_ok h2
    have h7 := itemS_ok h4
    have h8 := (k.placed h7.2.1).lt rfl
    simp only [Rd.at_] at h8
    exact .two (h.not (by omega) h1) (h.item h2 (by omega)) (h.yes (by omega) h3) (h.item h4 (by omega)) h5 (ih h7.2.1 ⟨y, b, rfl, hle⟩)
theorem itemS_130 {s : ByteArray} {a p : Nat} {e : Int} (h : itemS s a = .bad p e) : e ≠ 130 := by
  unfold itemS at h
  split at h
  · unfold oneS at h
    split at h
    · have := escS_bad h; omega
    · split at h
      · cases h
      · injection h with h1 h2; omega
  · injection h with h1 h2; omega
theorem ClassRun.not130 {s : ByteArray} {a : Nat} {x : Cls} {n : Nat} {R : Rd (Cls × Nat)} (e : ClassRun s a x n R) : ∀ p, R ≠ .bad p 130 := by
  induction e with
  | stop h1 hb => intro p e; cases e
  | bad1 h1 h2 => intro p e; injection e with _ e; exact itemS_130 h2 e
  | one h1 h2 h3 k ih => exact ih
  | bad2 h1 h2 h3 h4 => intro p e; injection e with _ e; exact itemS_130 h4 e
  | less h1 h2 h3 h4 h5 => intro p e; injection e with _ e; omega
  | two h1 h2 h3 h4 h5 k ih => exact ih
theorem finC_ok {ng : Bool} {op : Nat} {R : Rd (Cls × Nat)} {x : Cls} {b : Nat} (h : finC ng op R = .ok x b) : ∃ y, R = .ok y b := by
  cases R with
  | bad p e => cases h
  | ok v c =>
    obtain ⟨y, n⟩ := v
    have e : finC ng op (.ok (y, n) c) = if n = 0 ∨ (if ng then ~~~ y else y) = 0 then .bad op 132 else .ok (if ng then ~~~ y else y) c := rfl
    rw [e] at h
    by_cases hc : n = 0 ∨ (if ng then ~~~ y else y) = 0
    · rw [if_pos hc] at h; cases h
    · rw [if_neg hc] at h; injection h with h1 h2; subst h2; exact ⟨_, rfl⟩
theorem Pre.neg {s t : ByteArray} {m a : Nat} (h : Pre s t m) (ha : a + 1 ≤ m) : negS t a = negS s a := by
  unfold negS
  rw [← h.eq (a + 1) ha, Bool.eq_iff_iff]
  simp only [decide_eq_true_eq]
  have := h.hs; have := h.ht
  constructor
  · rintro ⟨_, h2⟩; exact ⟨by omega, h2⟩
  · rintro ⟨_, h2⟩; exact ⟨by omega, h2⟩
theorem Rd.map_ok {α β : Type} {f : α → β} {R : Rd α} {y : β} {b : Nat} (h : R.map f = .ok y b) : ∃ x, R = .ok x b ∧ y = f x := by
  cases R with
  | ok v c => injection h with h1 h2; subst h2; exact ⟨v, rfl, h1.symm⟩
  | bad p e => cases h
theorem Rd.map_bad {α β : Type} {f : α → β} {R : Rd α} {p : Nat} {e : Int} (h : R.map f = .bad p e) : R = .bad p e := by
  cases R with
  | ok v c => cases h
  | bad p e => injection h with h1 h2; rw [h1, h2]
theorem Pre.elem {s t : ByteArray} {m a : Nat} {R : Rd Cls} (h : Pre s t m) (e : ElemRd s a R) (ha : a < s.size) {x : Cls} {b : Nat} (hR : R = .ok x b) (hb : b ≤ m) : ElemRd t a R := by
  have hpl := (e.placed ha).lt (by rw [hR]; rfl)
  rw [hR] at hpl
  simp only [Rd.at_] at hpl
  cases e with
  | full h1 => exact .full (by rw [← h.eq a (by omega)]; exact h1)
  | cls h1 k =>
    obtain ⟨y, rfl⟩ := finC_ok hR
    have hbg := beginS_le s a ha
    have h3 := (k.placed hbg.2).lt rfl
    simp only [Rd.at_] at h3
    have hn := h.neg (a := a) (by omega)
    have hbe : beginS t a = beginS s a := by unfold beginS; rw [hn]
    rw [← hn]
    exact .cls (by rw [← h.eq a (by omega)]; exact h1) (by rw [hbe]; exact h.cls k hbg.2 ⟨y, b, rfl, hb⟩)
  | byte h1 h2 =>
    obtain ⟨v, hv, rfl⟩ := Rd.map_ok hR
    have := h.one hv ha hb
    rw [hv, ← this]
    exact .byte (by rw [← h.eq a (by omega)]; exact h1) (by rw [← h.eq a (by omega)]; exact h2)
theorem ElemRd.at130 {s : ByteArray} {a m : Nat} {R : Rd Cls} (e : ElemRd s a R) (hR : R = .bad m 130) : m = a ∧ byteAt s a ≠ 63 ∧ byteAt s a ≠ 91 ∧ oneS ByteArray.empty 130 s a = .bad a 130 := by
  cases e with
  | full h1 => cases hR
  | @cls R0 h1 k =>
    exfalso
    cases R0 with
    | bad p e => injection hR with h2 h3; exact k.not130 p (by rw [← h3])
    | ok v c =>
      obtain ⟨y, n⟩ := v
      have e : finC (negS s a) a (.ok (y, n) c) = if n = 0 ∨ (if negS s a then ~~~ y else y) = 0 then .bad a 132 else .ok (if negS s a then ~~~ y else y) c := rfl
      rw [e] at hR
      by_cases hc : n = 0 ∨ (if negS s a then ~~~ y else y) = 0
      · rw [if_pos hc] at hR; injection hR with h1 h2; omega
      · rw [if_neg hc] at hR; cases hR
  | byte h1 h2 =>
    have hv := Rd.map_bad hR
    have hm := oneS_bad hv (by decide)
    exact ⟨hm.1, h1, h2, by rw [hv, hm.1]⟩
theorem Pre.elem_bad {s t : ByteArray} {m : Nat} (h : Pre s t m) (e : ElemRd s m (.bad m 130)) : ElemRd t m (.bad m 130) := by
  obtain ⟨-, h1, h2, hv⟩ := e.at130 rfl
  have hv' : oneS ByteArray.empty 130 t m = .bad m 130 := by
    unfold oneS at hv ⊢
    rw [← h.eq m (by omega)]
    split at hv
    · have := escS_bad hv; omega
    · rename_i c; rw [if_neg c]
      split at hv
      · cases hv
      · rename_i c2; rw [if_neg c2]
  have := ElemRd.byte (s := t) (a := m) (by rw [← h.eq m (by omega)]; exact h1) (by rw [← h.eq m (by omega)]; exact h2)
  rw [hv'] at this
  exact this
theorem PatRun.ge130 {s : ByteArray} {a : Nat} {xs : List Cls} {R : Rd (List Cls)} (e : PatRun s a xs R) : a ≤ s.size → ∀ m, R = .bad m 130 → a ≤ m := by
  induction e with
  | stop h1 => intro _ m e; injection e with e1 e2; omega
  | close h1 hb h2 => intro _ m e; cases e
  | empty h1 hb h2 => intro _ m e; injection e with e1 e2; omega
  | long h1 hb h2 => intro _ m e; injection e with e1 e2; omega
  | bad h1 hb h2 k => intro _ m e; injection e with e1 e2; subst e1 e2; have := k.at130 rfl; omega
  | step h1 hb h2 k r ih =>
    intro _ m e
    have h3 := k.placed h1
    have h4 := h3.lt rfl
    have h5 := h3.le
    simp only [Rd.at_] at h4 h5
    have := ih h5 m e
    omega
theorem Pre.pat {s t : ByteArray} {m a : Nat} {xs : List Cls} {R : Rd (List Cls)} (h : Pre s t m) (e : PatRun s a xs R) : a ≤ s.size → ((∃ y b, R = .ok y b ∧ b ≤ m) ∨ R = .bad m 130) → PatRun t a xs R := by
  induction e with
  | stop h1 => rintro _ (⟨y, b, e, _⟩ | e); cases e; injection e with e1 e2; omega
  | close h1 hb h2 =>
    rintro _ (⟨y, b, e, hle⟩ | e)
    · injection e with e1 e2; exact .close (by have := h.ht; omega) (by rw [← h.eq _ (by omega)]; exact hb) h2
    · cases e
  | empty h1 hb h2 => rintro _ (⟨y, b, e, _⟩ | e); cases e; injection e with e1 e2; omega
  | long h1 hb h2 => rintro _ (⟨y, b, e, _⟩ | e); cases e; injection e with e1 e2; omega
  | bad h1 hb h2 k =>
    rintro _ (⟨y, b, e, _⟩ | e)
    · cases e
    · injection e with e1 e2
      subst e1 e2
      have ham := (k.at130 rfl).1
      subst ham
      exact .bad h.ht (by rw [← h.eq _ (Nat.le_refl _)]; exact hb) h2 (h.elem_bad k)
  | step h1 hb h2 k r ih =>
    intro ha hR
    have h3 := k.placed h1
    have h4 := h3.lt rfl
    have h5 := h3.le
    simp only [Rd.at_] at h4 h5
    have hpl := r.placed h5
    rcases hR with ⟨y, b, rfl, hle⟩ | rfl
    · have h6 := hpl.lt rfl
      simp only [Rd.at_] at h6
      exact .step (by have := h.ht; omega) (by rw [← h.eq _ (by omega)]; exact hb) h2 (h.elem k h1 rfl (by omega)) (ih h5 (.inl ⟨y, b, rfl, hle⟩))
    · have h6 := r.ge130 h5 m rfl
      exact .step (by have := h.ht; omega) (by rw [← h.eq _ (by omega)]; exact hb) h2 (h.elem k h1 rfl (by omega)) (ih h5 (.inr rfl))
theorem Pre.val {s t : ByteArray} {m a : Nat} (h : Pre s t m) : ∀ j, a + j ≤ m + 1 → valD t a j = valD s a j
  | 0, _ => rfl
  | j + 1, hj => by unfold valD; rw [h.val j (by omega), h.eq (a + j) (by omega)]
theorem Pre.dig {s t : ByteArray} {m a j : Nat} (h : Pre s t m) (ha : a ≤ m) : isDig t a ↔ isDig s a := by
  unfold isDig
  rw [h.eq a ha]
  have := h.hs; have := h.ht
  constructor
  · rintro ⟨_, h2⟩; exact ⟨by omega, h2⟩
  · rintro ⟨_, h2⟩; exact ⟨by omega, h2⟩
theorem numS_ok {s : ByteArray} {a m v b : Nat} (h : numS s a m = .ok v b) : b = a + m ∧ v = valD s a m ∧ 0 < m := by
  unfold numS at h
  split at h
  · cases h
  · injection h with h1 h2; exact ⟨h2.symm, h1.symm, by omega⟩
theorem numS_130 {s : ByteArray} {a m p : Nat} {e : Int} (h : numS s a m = .bad p e) : e = 134 := by
  unfold numS at h
  split at h
  · injection h with h1 h2; exact h2.symm
  · cases h
theorem Pre.tok {s t : ByteArray} {m a : Nat} {R : Rd Tok} (h : Pre s t m) (e : TokRd s a R) (ha : a < s.size) (hR : (∃ y b, R = .ok y b ∧ b ≤ m) ∨ R = .bad m 130) : TokRd t a R := by
  have hpl := e.placed ha
  cases e with
  | @pat R0 h1 k =>
    have ham : a + 1 ≤ m := by
      rcases hR with ⟨y, b, e, hle⟩ | e
      · obtain ⟨x, rfl, _⟩ := Rd.map_ok e
        have := (k.placed (by omega)).lt rfl; simp only [Rd.at_] at this; omega
      · exact k.ge130 (by omega) m (Rd.map_bad e)
    refine .pat (by rw [← h.eq a (by omega)]; exact h1) (h.pat k (by omega) ?_)
    rcases hR with ⟨y, b, e, hle⟩ | e
    · obtain ⟨x, rfl, _⟩ := Rd.map_ok e; exact .inl ⟨x, b, rfl, hle⟩
    · exact .inr (Rd.map_bad e)
  | none h1 h2 =>
    rcases hR with ⟨y, b, e, hle⟩ | e
    · cases e
    · injection e with e1 e2; subst e1; exact .none (by rw [← h.eq a (by omega)]; exact h1) (by rw [← h.eq a (by omega)]; exact h2)
  | sign h1 h2 h3 h4 =>
    rcases hR with ⟨y, b, e, hle⟩ | e
    · injection e with e1 e2; exact .sign (by rw [← h.eq a (by omega)]; exact h1) (by rw [← h.eq a (by omega)]; exact h2) h3 h4
    · cases e
  | @num k n h1 h2 h3 h4 =>
    rcases hR with ⟨y, b, e, hle⟩ | e
    · obtain ⟨v, hv, rfl⟩ := Rd.map_ok e
      obtain ⟨h5, h6, h7⟩ := numS_ok hv
      have hn : numS t (a + 1) n = numS s (a + 1) n := by
        unfold numS; rw [h.val n (by omega), ← h.eq (a + 1) (by omega)]
      rw [← hn]
      refine .num (by rw [← h.eq a (by omega)]; exact h1) (by rw [← h.eq a (by omega)]; exact h2) h3 ⟨fun j hj => (h.dig (j := 0) (by omega)).2 (h4.yes j hj), fun hd => h4.no ((h.dig (j := 0) (by omega)).1 hd)⟩
    · exfalso
      have := numS_130 (Rd.map_bad e)
      omega
theorem TokRd.ge130 {s : ByteArray} {a m : Nat} {R : Rd Tok} (e : TokRd s a R) (ha : a < s.size) (hR : R = .bad m 130) : a ≤ m := by
  cases e with
  | @pat R0 h1 k => have := k.ge130 (by omega) m (Rd.map_bad hR); omega
  | none h1 h2 => injection hR with e1 e2; omega
  | sign h1 h2 h3 h4 => cases hR
  | @num k n h1 h2 h3 h4 => have := numS_130 (Rd.map_bad hR); omega
theorem LexRun.ge130 {s : ByteArray} {a : Nat} {l : List Tok} {R : Rd (List Tok)} (e : LexRun s a l R) : ∀ m, R = .bad m 130 → a ≤ m := by
  induction e with
  | stop h1 => intro m e; cases e
  | blank h1 hb k ih => intro m e; have := ih m e; omega
  | bad h1 hb k => intro m e; injection e with e1 e2; subst e1 e2; exact k.ge130 h1 rfl
  | step h1 hb k r ih => intro m e; have := (k.placed h1).lt rfl; simp only [Rd.at_] at this; have := ih m e; omega
theorem Pre.lex {s t : ByteArray} {m a : Nat} {l : List Tok} {R : Rd (List Tok)} (h : Pre s t m) (e : LexRun s a l R) : R = .bad m 130 → LexRun t a l R := by
  induction e with
  | stop h1 => intro e; cases e
  | blank h1 hb k ih => intro e; have := k.ge130 m e; exact .blank (by have := h.ht; omega) (by rw [← h.eq _ (by omega)]; exact hb) (ih e)
  | bad h1 hb k =>
    intro e; injection e with e1 e2; subst e1 e2
    have := k.ge130 h1 rfl
    exact .bad (by have := h.ht; omega) (by rw [← h.eq _ (by omega)]; exact hb) (h.tok k h1 (.inr rfl))
  | step h1 hb k r ih =>
    intro e
    have h2 := (k.placed h1).lt rfl; simp only [Rd.at_] at h2
    have h3 := r.ge130 m e
    exact .step (by have := h.ht; omega) (by rw [← h.eq _ (by omega)]; exact hb) (h.tok k h1 (.inl ⟨_, _, rfl, h3⟩)) (ih e)
theorem byteAt_append (s t : ByteArray) (k : Nat) : byteAt (s ++ t) k = if k < s.size then byteAt s k else byteAt t (k - s.size) := by
  unfold byteAt
  by_cases h : k < s.size
  · rw [if_pos h, dif_pos (by rw [ByteArray.size_append]; omega), dif_pos h, ByteArray.getElem_append_left h]
  · rw [if_neg h]
    by_cases h2 : k - s.size < t.size
    · rw [dif_pos (by rw [ByteArray.size_append]; omega), dif_pos h2, ByteArray.getElem_append_right (by omega)]
    · rw [dif_neg (by rw [ByteArray.size_append]; omega), dif_neg h2]
theorem byteAt_extract (s : ByteArray) (i j k : Nat) (hj : j ≤ s.size) (h : i + k < j) : byteAt (s.extract i j) k = byteAt s (i + k) := by
  unfold byteAt
  rw [dif_pos (by rw [ByteArray.size_extract]; omega), dif_pos (by omega), ByteArray.getElem_extract]
/-- The head of a text that is refused at a place, and whatever behind it. -/
theorem lexS_head {s more : ByteArray} {m : Nat} (h : lexS s (.bad m 130)) (hm : m < s.size) (hs : s.size ≤ 400) (hmo : more.size ≤ 400) : lexS (s.extract 0 (m + 1) ++ more) (.bad m 130) := by
  unfold lexS at h ⊢
  rw [if_neg (by omega)] at h
  have hsz : (s.extract 0 (m + 1)).size = m + 1 := by rw [ByteArray.size_extract]; omega
  rw [if_neg (by rw [ByteArray.size_append, hsz]; omega)]
  refine Pre.lex (s := s) ⟨hm, by rw [ByteArray.size_append, hsz]; omega, fun k hk => ?_⟩ h rfl
  rw [byteAt_append, if_pos (by omega), byteAt_extract _ _ _ _ (by omega) (by omega), Nat.zero_add]
end Go.Proofs.Ytpndjehiacmngaa
