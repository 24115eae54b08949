/- Joined texts: TotA HeadA ReadA ReadB. -/
import Derived.Test.YtoelilejohfglaaGreatBunE
import Derived.Test.YtoelilejohfglaaGreatBnPrn
namespace Go.Proofs.YtoelilejohfglaaGreat
open Go.RowKit
set_option linter.unusedVariables false
set_option linter.unusedSimpArgs false
theorem TokRd.few {s : ByteArray} {a : Nat} {R : Rd Tok} (h : TokRd s a R) : ∀ t b, R = .ok t b → t.p.length ≤ 64 := by
 cases h with
 | @pat R0 h k =>
  intro t b e
  cases R0 with
  | ok ys n => injection e with e1 e2; subst e1; exact (k.len (by simp) ys n rfl).1
  | bad p e' => cases e
 | none => intro t b e; cases e
 | sign => intro t b e; injection e with e1 e2; subst e1; simp
 | @num k m h h1 h2 h3 =>
  intro t b e
  cases hR : numS s (a + 1) m with
  | ok v n => rw [hR] at e; injection e with e1 e2; subst e1; simp
  | bad p e' => rw [hR] at e; cases e
theorem LexRun.few {s : ByteArray} {a : Nat} {l : List Tok} {R : Rd (List Tok)} (h : LexRun s a l R) : (∀ t ∈ l, t.p.length ≤ 64) → ∀ l' b, R = .ok l' b → ∀ t ∈ l', t.p.length ≤ 64 := by
 induction h with
 | stop h => intro hl l' b e; injection e with e1 e2; subst e1; exact hl
 | blank h hb k ih => exact ih
 | bad h hb k => intro hl l' b e; cases e
 | step h hb k r ih =>
  intro hl
  refine ih ?_
  intro t ht
  rw [List.mem_append] at ht
  rcases ht with ht | ht
  ·exact hl t ht
  ·simp only [List.mem_singleton] at ht
   subst ht
   exact k.few _ _ rfl
structure Pre (s t : ByteArray) (m : Nat) : Prop where
 hs : m < s.size
 ht : m < t.size
 eq : ∀ k, k ≤ m → byteAt s k = byteAt t k
theorem Pre.esc {s t : ByteArray} {m a v b : Nat} (h : Pre s t m) (e : escS s a = .ok v b) (hb : b ≤ m) : escS t a = .ok v b := by
 obtain ⟨hs, ht, heq⟩ := h
 unfold escS at e ⊢
 by_cases c1 : a + 1 < s.size ∧ inS escSet (byteAt s (a + 1)) = true
 ·rw [if_pos c1] at e
  injection e with e1 e2
  rw [if_pos ⟨by omega, by rw [← heq (a + 1) (by omega)]; exact c1.2⟩, ← heq (a + 1) (by omega), e1, e2]
 ·rw [if_neg c1] at e
  by_cases c2 : a + 3 < s.size ∧ byteAt s (a + 1) = 120 ∧ 0 ≤ hexV (byteAt s (a + 2)) ∧ 0 ≤ hexV (byteAt s (a + 3))
  ·rw [if_pos c2] at e
   injection e with e1 e2
   rw [if_neg, if_pos, ← heq (a + 2) (by omega), ← heq (a + 3) (by omega), e1, e2]
   ·exact ⟨by omega, by rw [← heq (a + 1) (by omega)]; exact c2.2.1, by rw [← heq (a + 2) (by omega)]; exact c2.2.2.1, by rw [← heq (a + 3) (by omega)]; exact c2.2.2.2⟩
   ·rintro ⟨c3, c4⟩; exact c1 ⟨by omega, by rw [heq (a + 1) (by omega)]; exact c4⟩
  ·rw [if_neg c2] at e; cases e
theorem Pre.one {s t : ByteArray} {m a v b : Nat} {ap : ByteArray} {no : Int} (h : Pre s t m) (e : oneS ap no s a = .ok v b) (ha : a < s.size) (hb : b ≤ m) : oneS ap no t a = .ok v b := by
 have hp := oneS_ok e ha
 have ea := h.eq a (by omega)
 unfold oneS at e ⊢
 rw [← ea]
 split at e
 ·rename_i c; rw [if_pos c]; exact h.esc e hb
 ·rename_i c; rw [if_neg c]
  split at e
  ·rename_i c2; rw [if_pos c2]; exact e
  ·cases e
theorem Pre.item {s t : ByteArray} {m a v b : Nat} (h : Pre s t m) (e : itemS s a = .ok v b) (hb : b ≤ m) : itemS t a = .ok v b := by
 have hp := itemS_ok e
 unfold itemS at e ⊢
 split at e
 ·rename_i c; rw [if_pos (by have := h.ht; omega)]; exact h.one e c hb
 ·cases e
theorem Pre.not {s t : ByteArray} {m b x : Nat} (h : Pre s t m) (hb : b ≤ m) (c : ¬ (b < s.size ∧ byteAt s b = x)) : ¬ (b < t.size ∧ byteAt t b = x) := by
 rintro ⟨c1, c2⟩; exact c ⟨by have := h.hs; omega, by rw [h.eq b hb]; exact c2⟩
theorem Pre.yes {s t : ByteArray} {m b x : Nat} (h : Pre s t m) (hb : b ≤ m) (c : b < s.size ∧ byteAt s b = x) : b < t.size ∧ byteAt t b = x :=
 ⟨by have := h.ht; omega, by rw [← h.eq b hb]; exact c.2⟩
theorem Pre.cls {s t : ByteArray} {m a : Nat} {x : Cls} {n : Nat} {R : Rd (Cls × Nat)} (h : Pre s t m) (e : ClassRun s a x n R) : a ≤ s.size → (∃ y b, R = .ok y b ∧ b ≤ m) → ClassRun t a x n R := by
 induction e with
 | stop h1 hb => rintro _ ⟨y, b, e, hle⟩; injection e with e1 e2; exact .stop (by have := h.ht; omega) (by rw [← h.eq _ (by omega)]; exact hb)
 | bad1 h1 h2 => rintro _ ⟨y, b, e, hle⟩; cases e
 | one h1 h2 h3 k ih =>
  rintro _ ⟨y, b, rfl, hle⟩
  have h4 := itemS_ok h2
  have h5 := (k.placed h4.2.1).lt rfl
  simp only [Rd.at_] at h5
  exact .one (h.not (by omega) h1) (h.item h2 (by omega)) (h.not (by omega) h3) (ih h4.2.1 ⟨y, b, rfl, hle⟩)
 | bad2 h1 h2 h3 h4 => rintro _ ⟨y, b, e, hle⟩; cases e
 | less h1 h2 h3 h4 h5 => rintro _ ⟨y, b, e, hle⟩; cases e
 | two h1 h2 h3 h4 h5 k ih =>
  rintro _ ⟨y, b, rfl, hle⟩
  have h6 := itemS_ok h2
  have h7 := itemS_ok h4
  have h8 := (k.placed h7.2.1).lt rfl
  simp only [Rd.at_] at h8
  exact .two (h.not (by omega) h1) (h.item h2 (by omega)) (h.yes (by omega) h3) (h.item h4 (by omega)) h5 (ih h7.2.1 ⟨y, b, rfl, hle⟩)
theorem itemS_130 {s : ByteArray} {a p : Nat} {e : Int} (h : itemS s a = .bad p e) : e ≠ 130 := by
 unfold itemS at h
 split at h
 ·unfold oneS at h
  split at h
  ·have := escS_bad h; omega
  ·split at h
   ·cases h
   ·injection h with h1 h2; omega
 ·injection h with h1 h2; omega
theorem ClassRun.not130 {s : ByteArray} {a : Nat} {x : Cls} {n : Nat} {R : Rd (Cls × Nat)} (e : ClassRun s a x n R) : ∀ p, R ≠ .bad p 130 := by
 induction e with
 | stop h1 hb => intro p e; cases e
 | bad1 h1 h2 => intro p e; injection e with _ e; exact itemS_130 h2 e
 | one h1 h2 h3 k ih => exact ih
 | bad2 h1 h2 h3 h4 => intro p e; injection e with _ e; exact itemS_130 h4 e
 | less h1 h2 h3 h4 h5 => intro p e; injection e with _ e; omega
 | two h1 h2 h3 h4 h5 k ih => exact ih
theorem finC_ok {ng : Bool} {op : Nat} {R : Rd (Cls × Nat)} {x : Cls} {b : Nat} (h : finC ng op R = .ok x b) : ∃ y, R = .ok y b := by
 cases R with
 | bad p e => cases h
 | ok v c =>
  obtain ⟨y, n⟩ := v
  have e : finC ng op (.ok (y, n) c) = if n = 0 ∨ (if ng then ~~~ y else y) = 0 then .bad op 132 else .ok (if ng then ~~~ y else y) c := rfl
  rw [e] at h
  by_cases hc : n = 0 ∨ (if ng then ~~~ y else y) = 0
  ·rw [if_pos hc] at h; cases h
  ·rw [if_neg hc] at h; injection h with h1 h2; subst h2; exact ⟨_, rfl⟩
theorem Pre.neg {s t : ByteArray} {m a : Nat} (h : Pre s t m) (ha : a + 1 ≤ m) : negS t a = negS s a := by
 unfold negS
 rw [← h.eq (a + 1) ha, Bool.eq_iff_iff]
 simp only [decide_eq_true_eq]
 have := h.hs; have := h.ht
 constructor
 ·rintro ⟨_, h2⟩; exact ⟨by omega, h2⟩
 ·rintro ⟨_, h2⟩; exact ⟨by omega, h2⟩
theorem Rd.map_ok {α β : Type} {f : α → β} {R : Rd α} {y : β} {b : Nat} (h : R.map f = .ok y b) : ∃ x, R = .ok x b ∧ y = f x := by
 cases R with
 | ok v c => injection h with h1 h2; subst h2; exact ⟨v, rfl, h1.symm⟩
 | bad p e => cases h
theorem Rd.map_bad {α β : Type} {f : α → β} {R : Rd α} {p : Nat} {e : Int} (h : R.map f = .bad p e) : R = .bad p e := by
 cases R with
 | ok v c => cases h
 | bad p e => injection h with h1 h2; rw [h1, h2]
theorem Pre.elem {s t : ByteArray} {m a : Nat} {R : Rd Cls} (h : Pre s t m) (e : ElemRd s a R) (ha : a < s.size) {x : Cls} {b : Nat} (hR : R = .ok x b) (hb : b ≤ m) : ElemRd t a R := by
 have hpl := (e.placed ha).lt (by rw [hR]; rfl)
 rw [hR] at hpl
 simp only [Rd.at_] at hpl
 cases e with
 | full h1 => exact .full (by rw [← h.eq a (by omega)]; exact h1)
 | cls h1 k =>
  obtain ⟨y, rfl⟩ := finC_ok hR
  have hbg := beginS_le s a ha
  have h3 := (k.placed hbg.2).lt rfl
  simp only [Rd.at_] at h3
  have hn := h.neg (a := a) (by omega)
  have hbe : beginS t a = beginS s a := by unfold beginS; rw [hn]
  rw [← hn]
  exact .cls (by rw [← h.eq a (by omega)]; exact h1) (by rw [hbe]; exact h.cls k hbg.2 ⟨y, b, rfl, hb⟩)
 | byte h1 h2 =>
  obtain ⟨v, hv, rfl⟩ := Rd.map_ok hR
  have := h.one hv ha hb
  rw [hv, ← this]
  exact .byte (by rw [← h.eq a (by omega)]; exact h1) (by rw [← h.eq a (by omega)]; exact h2)
theorem ElemRd.at130 {s : ByteArray} {a m : Nat} {R : Rd Cls} (e : ElemRd s a R) (hR : R = .bad m 130) : m = a ∧ byteAt s a ≠ 63 ∧ byteAt s a ≠ 91 ∧ oneS ByteArray.empty 130 s a = .bad a 130 := by
 cases e with
 | full h1 => cases hR
 | @cls R0 h1 k =>
  exfalso
  cases R0 with
  | bad p e => injection hR with h2 h3; exact k.not130 p (by rw [← h3])
  | ok v c =>
   obtain ⟨y, n⟩ := v
   have e : finC (negS s a) a (.ok (y, n) c) = if n = 0 ∨ (if negS s a then ~~~ y else y) = 0 then .bad a 132 else .ok (if negS s a then ~~~ y else y) c := rfl
   rw [e] at hR
   by_cases hc : n = 0 ∨ (if negS s a then ~~~ y else y) = 0
   ·rw [if_pos hc] at hR; injection hR with h1 h2; omega
   ·rw [if_neg hc] at hR; cases hR
 | byte h1 h2 =>
  have hv := Rd.map_bad hR
  have hm := oneS_bad hv (by decide)
  exact ⟨hm.1, h1, h2, by rw [hv, hm.1]⟩
theorem Pre.elem_bad {s t : ByteArray} {m : Nat} (h : Pre s t m) (e : ElemRd s m (.bad m 130)) : ElemRd t m (.bad m 130) := by
 obtain ⟨-, h1, h2, hv⟩ := e.at130 rfl
 have hv' : oneS ByteArray.empty 130 t m = .bad m 130 := by
  unfold oneS at hv ⊢
  rw [← h.eq m (by omega)]
  split at hv
  ·have := escS_bad hv; omega
  ·rename_i c; rw [if_neg c]
   split at hv
   ·cases hv
   ·rename_i c2; rw [if_neg c2]
 have := ElemRd.byte (s := t) (a := m) (by rw [← h.eq m (by omega)]; exact h1) (by rw [← h.eq m (by omega)]; exact h2)
 rw [hv'] at this
 exact this
theorem PatRun.ge130 {s : ByteArray} {a : Nat} {xs : List Cls} {R : Rd (List Cls)} (e : PatRun s a xs R) : a ≤ s.size → ∀ m, R = .bad m 130 → a ≤ m := by
 induction e with
 | stop h1 => intro _ m e; injection e with e1 e2; omega
 | close h1 hb h2 => intro _ m e; cases e
 | empty h1 hb h2 => intro _ m e; injection e with e1 e2; omega
 | long h1 hb h2 => intro _ m e; injection e with e1 e2; omega
 | bad h1 hb h2 k => intro _ m e; injection e with e1 e2; subst e1 e2; have := k.at130 rfl; omega
 | step h1 hb h2 k r ih =>
  intro _ m e
  have h3 := k.placed h1
  have h4 := h3.lt rfl
  have h5 := h3.le
  simp only [Rd.at_] at h4 h5
  have := ih h5 m e
  omega
theorem Pre.pat {s t : ByteArray} {m a : Nat} {xs : List Cls} {R : Rd (List Cls)} (h : Pre s t m) (e : PatRun s a xs R) : a ≤ s.size → ((∃ y b, R = .ok y b ∧ b ≤ m) ∨ R = .bad m 130) → PatRun t a xs R := by
 induction e with
 | stop h1 => rintro _ (⟨y, b, e, _⟩ | e); cases e; injection e with e1 e2; omega
 | close h1 hb h2 =>
  rintro _ (⟨y, b, e, hle⟩ | e)
  ·injection e with e1 e2; exact .close (by have := h.ht; omega) (by rw [← h.eq _ (by omega)]; exact hb) h2
  ·cases e
 | empty h1 hb h2 => rintro _ (⟨y, b, e, _⟩ | e); cases e; injection e with e1 e2; omega
 | long h1 hb h2 => rintro _ (⟨y, b, e, _⟩ | e); cases e; injection e with e1 e2; omega
 | bad h1 hb h2 k =>
  rintro _ (⟨y, b, e, _⟩ | e)
  ·cases e
  ·injection e with e1 e2
   subst e1 e2
   have ham := (k.at130 rfl).1
   subst ham
   exact .bad h.ht (by rw [← h.eq _ (Nat.le_refl _)]; exact hb) h2 (h.elem_bad k)
 | step h1 hb h2 k r ih =>
  intro ha hR
  have h3 := k.placed h1
  have h4 := h3.lt rfl
  have h5 := h3.le
  simp only [Rd.at_] at h4 h5
  have hpl := r.placed h5
  rcases hR with ⟨y, b, rfl, hle⟩ | rfl
  ·have h6 := hpl.lt rfl
   simp only [Rd.at_] at h6
   exact .step (by have := h.ht; omega) (by rw [← h.eq _ (by omega)]; exact hb) h2 (h.elem k h1 rfl (by omega)) (ih h5 (.inl ⟨y, b, rfl, hle⟩))
  ·have h6 := r.ge130 h5 m rfl
   exact .step (by have := h.ht; omega) (by rw [← h.eq _ (by omega)]; exact hb) h2 (h.elem k h1 rfl (by omega)) (ih h5 (.inr rfl))
theorem Pre.val {s t : ByteArray} {m a : Nat} (h : Pre s t m) : ∀ j, a + j ≤ m + 1 → valD t a j = valD s a j
 | 0, _ => rfl
 | j + 1, hj => by unfold valD; rw [h.val j (by omega), h.eq (a + j) (by omega)]
theorem Pre.dig {s t : ByteArray} {m a j : Nat} (h : Pre s t m) (ha : a ≤ m) : isDig t a ↔ isDig s a := by
 unfold isDig
 rw [h.eq a ha]
 have := h.hs; have := h.ht
 constructor
 ·rintro ⟨_, h2⟩; exact ⟨by omega, h2⟩
 ·rintro ⟨_, h2⟩; exact ⟨by omega, h2⟩
theorem numS_ok {s : ByteArray} {a m v b : Nat} (h : numS s a m = .ok v b) : b = a + m ∧ v = valD s a m ∧ 0 < m := by
 unfold numS at h
 split at h
 ·cases h
 ·injection h with h1 h2; exact ⟨h2.symm, h1.symm, by omega⟩
theorem numS_130 {s : ByteArray} {a m p : Nat} {e : Int} (h : numS s a m = .bad p e) : e = 134 := by
 unfold numS at h
 split at h
 ·injection h with h1 h2; exact h2.symm
 ·cases h
theorem Pre.tok {s t : ByteArray} {m a : Nat} {R : Rd Tok} (h : Pre s t m) (e : TokRd s a R) (ha : a < s.size) (hR : (∃ y b, R = .ok y b ∧ b ≤ m) ∨ R = .bad m 130) : TokRd t a R := by
 have hpl := e.placed ha
 cases e with
 | @pat R0 h1 k =>
  have ham : a + 1 ≤ m := by
   rcases hR with ⟨y, b, e, hle⟩ | e
   ·obtain ⟨x, rfl, _⟩ := Rd.map_ok e
    have := (k.placed (by omega)).lt rfl; simp only [Rd.at_] at this; omega
   ·exact k.ge130 (by omega) m (Rd.map_bad e)
  refine .pat (by rw [← h.eq a (by omega)]; exact h1) (h.pat k (by omega) ?_)
  rcases hR with ⟨y, b, e, hle⟩ | e
  ·obtain ⟨x, rfl, _⟩ := Rd.map_ok e; exact .inl ⟨x, b, rfl, hle⟩
  ·exact .inr (Rd.map_bad e)
 | none h1 h2 =>
  rcases hR with ⟨y, b, e, hle⟩ | e
  ·cases e
  ·injection e with e1 e2; subst e1; exact .none (by rw [← h.eq a (by omega)]; exact h1) (by rw [← h.eq a (by omega)]; exact h2)
 | sign h1 h2 h3 h4 =>
  rcases hR with ⟨y, b, e, hle⟩ | e
  ·injection e with e1 e2; exact .sign (by rw [← h.eq a (by omega)]; exact h1) (by rw [← h.eq a (by omega)]; exact h2) h3 h4
  ·cases e
 | @num k n h1 h2 h3 h4 =>
  rcases hR with ⟨y, b, e, hle⟩ | e
  ·obtain ⟨v, hv, rfl⟩ := Rd.map_ok e
   obtain ⟨h5, h6, h7⟩ := numS_ok hv
   have hn : numS t (a + 1) n = numS s (a + 1) n := by
    unfold numS; rw [h.val n (by omega), ← h.eq (a + 1) (by omega)]
   rw [← hn]
   refine .num (by rw [← h.eq a (by omega)]; exact h1) (by rw [← h.eq a (by omega)]; exact h2) h3 ⟨fun j hj => (h.dig (j := 0) (by omega)).2 (h4.yes j hj), fun hd => h4.no ((h.dig (j := 0) (by omega)).1 hd)⟩
  ·exfalso
   have := numS_130 (Rd.map_bad e)
   omega
theorem TokRd.ge130 {s : ByteArray} {a m : Nat} {R : Rd Tok} (e : TokRd s a R) (ha : a < s.size) (hR : R = .bad m 130) : a ≤ m := by
 cases e with
 | @pat R0 h1 k => have := k.ge130 (by omega) m (Rd.map_bad hR); omega
 | none h1 h2 => injection hR with e1 e2; omega
 | sign h1 h2 h3 h4 => cases hR
 | @num k n h1 h2 h3 h4 => have := numS_130 (Rd.map_bad hR); omega
theorem LexRun.ge130 {s : ByteArray} {a : Nat} {l : List Tok} {R : Rd (List Tok)} (e : LexRun s a l R) : ∀ m, R = .bad m 130 → a ≤ m := by
 induction e with
 | stop h1 => intro m e; cases e
 | blank h1 hb k ih => intro m e; have := ih m e; omega
 | bad h1 hb k => intro m e; injection e with e1 e2; subst e1 e2; exact k.ge130 h1 rfl
 | step h1 hb k r ih => intro m e; have := (k.placed h1).lt rfl; simp only [Rd.at_] at this; have := ih m e; omega
theorem byteAt_append (s t : ByteArray) (k : Nat) : byteAt (s ++ t) k = if k < s.size then byteAt s k else byteAt t (k - s.size) := by
 unfold byteAt
 by_cases h : k < s.size
 ·rw [if_pos h, dif_pos (by rw [ByteArray.size_append]; omega), dif_pos h, ByteArray.getElem_append_left h]
 ·rw [if_neg h]
  by_cases h2 : k - s.size < t.size
  ·rw [dif_pos (by rw [ByteArray.size_append]; omega), dif_pos h2, ByteArray.getElem_append_right (by omega)]
  ·rw [dif_neg (by rw [ByteArray.size_append]; omega), dif_neg h2]
structure At (s : ByteArray) (a : Nat) (u : ByteArray) : Prop where
 le : a + u.size ≤ s.size
 eq : ∀ k, k < u.size → byteAt s (a + k) = byteAt u k
theorem At.left {s u v : ByteArray} {a : Nat} (h : At s a (u ++ v)) : At s a u := by
 have h1 := h.le
 rw [ByteArray.size_append] at h1
 exact ⟨by omega, fun k hk => by rw [h.eq k (by rw [ByteArray.size_append]; omega), byteAt_append, if_pos hk]⟩
theorem At.right {s u v : ByteArray} {a : Nat} (h : At s a (u ++ v)) : At s (a + u.size) v := by
 have h1 := h.le
 rw [ByteArray.size_append] at h1
 refine ⟨by omega, fun k hk => ?_⟩
 have := h.eq (u.size + k) (by rw [ByteArray.size_append]; omega)
 rw [byteAt_append, if_neg (by omega), show u.size + k - u.size = k from by omega, ← Nat.add_assoc] at this
 exact this
theorem At.both {s u v : ByteArray} {a : Nat} (h : At s a u) (k : At s (a + u.size) v) : At s a (u ++ v) := by
 have h1 := k.le
 refine ⟨by rw [ByteArray.size_append]; omega, fun j hj => ?_⟩
 rw [ByteArray.size_append] at hj
 rw [byteAt_append]
 by_cases hu : j < u.size
 ·rw [if_pos hu]; exact h.eq j hu
 ·rw [if_neg hu]
  have := k.eq (j - u.size) (by omega)
  rw [← this]; congr 1; omega
theorem At.lt {s u : ByteArray} {a : Nat} (h : At s a u) (k : Nat) (hk : k < u.size) : a + k < s.size := by have := h.le; omega
theorem byteS_at' : ∀ b : Fin 256, byteAt (byteS b.val) 0 = b.val := by decide +kernel
theorem byteS_at (b : Nat) (h : b < 256) : byteAt (byteS b) 0 = b := byteS_at' ⟨b, h⟩
theorem digS_at' : ∀ d : Fin 16, hexV (byteAt (digS d.val) 0) = d.val := by decide +kernel
theorem digS_at (d : Nat) (h : d < 16) : hexV (byteAt (digS d) 0) = d := digS_at' ⟨d, h⟩
theorem digS_one' : ∀ d : Fin 16, (digS d.val).size = 1 := by decide +kernel
theorem digS_one (d : Nat) (h : d < 16) : (digS d).size = 1 := digS_one' ⟨d, h⟩
theorem set_esc' : ∀ b : Fin 256, (inS insideSet b.val = true → inS escSet b.val = true) ∧ (inS outsideSet b.val = true → inS escSet b.val = true) ∧ (inS insideSet b.val = false → b.val ≠ 92 ∧ b.val ≠ 93 ∧ b.val ≠ 94 ∧ b.val ≠ 45) ∧ (inS outsideSet b.val = false → b.val ≠ 92 ∧ b.val ≠ 34 ∧ b.val ≠ 63 ∧ b.val ≠ 91) := by decide +kernel
structure Wr (ap : ByteArray) (no : Int) (ap' : ByteArray) : Prop where
 esc : ∀ b, b < 256 → inS ap b = true → inS escSet b = true
 bs : ∀ b, b < 256 → inS ap b = false → b ≠ 92
 less : ∀ b, b < 256 → inS ap b = false → inS ap' b = false
theorem one_written {ap ap' : ByteArray} {no : Int} (W : Wr ap no ap') {s : ByteArray} {a b : Nat} (hb : b < 256) (h : At s a (writtenS b ap)) :
  oneS ap' no s a = .ok b (a + (writtenS b ap).size) ∧ (byteAt s a = 92 ∨ (byteAt s a = b ∧ inS ap b = false)) := by
 cases hs : signB b with
 | false =>
  have hE : writtenS b ap = (⟨#[92, 120]⟩ ++ digS (b / 16)) ++ digS (b % 16) := by unfold writtenS; rw [if_pos hs]
  rw [hE] at h ⊢
  have h1 := h.left.left
  have h2 := h.left.right
  have h3 := h.right
  have z0 : (⟨#[92, 120]⟩ : ByteArray).size = 2 := rfl
  have z1 := digS_size (b / 16); have z2 := digS_size (b % 16)
  have z3 : (digS (b / 16)).size = 1 := digS_one _ (by omega)
  have z4 : (digS (b % 16)).size = 1 := digS_one _ (by omega)
  rw [ByteArray.size_append, z0, z3] at h3
  rw [z0] at h2
  have e0 := h1.eq 0 (by decide)
  have e1 := h1.eq 1 (by decide)
  have e2 := h2.eq 0 (by omega)
  have e3 := h3.eq 0 (by omega)
  have l3 := h3.lt 0 (by omega)
  simp only [Nat.add_zero] at e0 e2 e3 l3
  replace e0 : byteAt s a = 92 := e0
  replace e1 : byteAt s (a + 1) = 120 := e1
  have v2 := digS_at (b / 16) (by omega)
  have v3 := digS_at (b % 16) (by omega)
  rw [← e2] at v2
  rw [← e3] at v3
  rw [show a + (2 + 1) = a + 3 from rfl] at v3 l3
  refine ⟨?_, .inl e0⟩
  unfold oneS
  rw [if_pos e0]
  unfold escS
  rw [if_neg, if_pos, v2, v3]
  ·rw [ByteArray.size_append, ByteArray.size_append, z0, z3, z4]
   congr 1
   omega
  ·exact ⟨l3, e1, by rw [v2]; omega, by rw [v3]; omega⟩
  ·rw [e1]; rintro ⟨_, h⟩; exact absurd h (by decide)
 | true =>
  cases hi : inS ap b with
  | true =>
   have hE : writtenS b ap = ⟨#[92]⟩ ++ byteS b := by unfold writtenS; rw [if_neg (by rw [hs]; simp), if_pos hi]
   rw [hE] at h ⊢
   have z1 := byteS_size b
   have z0 : (⟨#[92]⟩ : ByteArray).size = 1 := rfl
   have h1 := h.left
   have h2 := h.right
   rw [z0] at h2
   have e0 := h1.eq 0 (by decide)
   have e1 := h2.eq 0 (by omega)
   have l1 := h2.lt 0 (by omega)
   simp only [Nat.add_zero] at e0 e1 l1
   replace e0 : byteAt s a = 92 := e0
   rw [byteS_at b hb] at e1
   refine ⟨?_, .inl e0⟩
   unfold oneS
   rw [if_pos e0]
   unfold escS
   rw [if_pos ⟨l1, by rw [e1]; exact W.esc b hb hi⟩, e1, ByteArray.size_append, z0, z1]
  | false =>
   have hE : writtenS b ap = byteS b := by unfold writtenS; rw [if_neg (by rw [hs]; simp), if_neg (by rw [hi]; simp)]
   rw [hE] at h ⊢
   have z1 := byteS_size b
   have e0 := h.eq 0 (by omega)
   rw [byteS_at b hb] at e0
   replace e0 : byteAt s a = b := e0
   refine ⟨?_, .inr ⟨e0, rfl⟩⟩
   unfold oneS
   rw [if_neg (by rw [e0]; exact W.bs b hb hi), if_pos (by rw [e0]; exact ⟨hs, W.less b hb hi⟩), e0, z1]
theorem Wr.inside : Wr insideSet 132 insideSet := ⟨fun b h => (set_esc' ⟨b, h⟩).1, fun b h hi => ((set_esc' ⟨b, h⟩).2.2.1 hi).1, fun _ _ h => h⟩
theorem Wr.outside : Wr outsideSet 130 ByteArray.empty := ⟨fun b h => (set_esc' ⟨b, h⟩).2.1, fun b h hi => ((set_esc' ⟨b, h⟩).2.2.2 hi).1, fun _ _ _ => rfl⟩
theorem item_written {s : ByteArray} {a b : Nat} (hb : b < 256) (h : At s a (writtenS b insideSet)) :
  itemS s a = .ok b (a + (writtenS b insideSet).size) ∧ byteAt s a ≠ 93 ∧ byteAt s a ≠ 94 ∧ byteAt s a ≠ 45 := by
 have h1 := one_written Wr.inside hb h
 have z := (writtenS_size b insideSet).1
 have l := h.lt 0 (by omega)
 refine ⟨by unfold itemS; rw [if_pos (by omega)]; exact h1.1, ?_⟩
 rcases h1.2 with h2 | ⟨h2, h3⟩
 ·omega
 ·have := (set_esc' ⟨b, hb⟩).2.2.1 h3
  simp only at this; omega
def runW (r : Nat × Nat) : ByteArray :=
 if r.1 = r.2 then writtenS r.1 insideSet
 else if r.2 = r.1 + 1 then writtenS r.1 insideSet ++ writtenS r.2 insideSet
 else (writtenS r.1 insideSet ++ ⟨#[45]⟩) ++ writtenS r.2 insideSet
theorem runT_eq (out : ByteArray) (r : Nat × Nat) (h : r.1 ≤ r.2) : runT out r = out ++ runW r := by
 unfold runT runW
 by_cases h1 : r.1 = r.2
 ·rw [if_pos h1]; simp only []; rw [if_neg (by omega), if_neg (by omega)]
 ·rw [if_neg h1]
  by_cases h2 : r.2 = r.1 + 1
  ·rw [if_pos h2]; simp only []; rw [if_pos (show r.1 < r.2 by omega), if_neg (show ¬ 1 < r.2 - r.1 by omega), ByteArray.append_assoc]
  ·rw [if_neg h2]; simp only []; rw [if_pos (show r.1 < r.2 by omega), if_pos (show 1 < r.2 - r.1 by omega), ByteArray.append_assoc, ByteArray.append_assoc, ByteArray.append_assoc]
def runsW : List (Nat × Nat) → ByteArray
 | [] => ByteArray.empty
 | r :: rs => runW r ++ runsW rs
theorem foldl_runT (rs : List (Nat × Nat)) : ∀ (out : ByteArray), (∀ r ∈ rs, r.1 ≤ r.2) → rs.foldl runT out = out ++ runsW rs := by
 induction rs with
 | nil => intro out _; exact (ByteArray.append_empty).symm
 | cons r rs ih =>
  intro out h
  rw [List.foldl_cons, runT_eq _ _ (h r (by simp)), ih _ (fun q hq => h q (by simp [hq])), runsW, ByteArray.append_assoc]
def unionC (rs : List (Nat × Nat)) (x : Cls) : Cls := rs.foldl (fun x r => x ||| rangeC r.1 r.2) x
theorem rangeC_get (a b : Nat) {i : Nat} (hi : i < 256) : (rangeC a b).getLsbD i = (decide (a ≤ i) && decide (i ≤ b)) := by unfold rangeC; rw [setC_get _ hi]
theorem rangeC_two (a : Nat) (x : Cls) : (x ||| rangeC a a) ||| rangeC (a + 1) (a + 1) = x ||| rangeC a (a + 1) := cls_ext fun i hi => by
 simp only [BitVec.getLsbD_or, rangeC_get _ _ hi, Bool.or_assoc]
 congr 1
 rw [Bool.eq_iff_iff]; simp; omega
theorem runW_first {s : ByteArray} {a : Nat} {r : Nat × Nat} (hr : r.1 < 256) (h : At s a (runW r)) : byteAt s a ≠ 93 ∧ byteAt s a ≠ 94 ∧ byteAt s a ≠ 45 := by
 unfold runW at h
 split at h
 ·exact (item_written hr h).2
 ·split at h
  ·exact (item_written hr h.left).2
  ·exact (item_written hr h.left.left).2
theorem run_read {s : ByteArray} {a : Nat} {r : Nat × Nat} (h12 : r.1 ≤ r.2) (h2 : r.2 < 256) (h : At s a (runW r)) (hn : byteAt s (a + (runW r).size) ≠ 45) {x : Cls} {n : Nat} :
  ∃ n', n < n' ∧ ∀ R, ClassRun s (a + (runW r).size) (x ||| rangeC r.1 r.2) n' R → ClassRun s a x n R := by
 unfold runW at *
 by_cases e1 : r.1 = r.2
 ·rw [if_pos e1] at *
  have i1 := item_written (by omega) h
  rw [← e1] at *
  exact ⟨n + 1, by omega, fun R k => .one (fun c => i1.2.1 c.2) i1.1 (fun c => hn c.2) k⟩
 ·rw [if_neg e1] at *
  by_cases e2 : r.2 = r.1 + 1
  ·rw [if_pos e2] at *
   have i1 := item_written (by omega) h.left
   have i2 := item_written h2 h.right
   rw [ByteArray.size_append, ← Nat.add_assoc] at *
   refine ⟨n + 1 + 1, by omega, fun R k => .one (fun c => i1.2.1 c.2) i1.1 (fun c => i2.2.2.2 c.2) (.one (fun c => i2.2.1 c.2) i2.1 (fun c => hn c.2) ?_)⟩
   rw [e2, rangeC_two, ← e2]; exact k
  ·rw [if_neg e2] at *
   have i1 := item_written (by omega) h.left.left
   have i2 := item_written h2 h.right
   have d := h.left.right
   have d0 := d.eq 0 (by decide)
   have dl := d.lt 0 (by decide)
   simp only [Nat.add_zero] at d0 dl
   replace d0 : byteAt s (a + (writtenS r.1 insideSet).size) = 45 := d0
   have z : (⟨#[45]⟩ : ByteArray).size = 1 := rfl
   rw [ByteArray.size_append, ByteArray.size_append, z, ← Nat.add_assoc, ← Nat.add_assoc] at *
   replace i2 : itemS s (a + (writtenS r.1 insideSet).size + 1) = .ok r.2 (a + (writtenS r.1 insideSet).size + 1 + (writtenS r.2 insideSet).size) ∧ byteAt s (a + (writtenS r.1 insideSet).size + 1) ≠ 93 ∧ byteAt s (a + (writtenS r.1 insideSet).size + 1) ≠ 94 ∧ byteAt s (a + (writtenS r.1 insideSet).size + 1) ≠ 45 := i2
   exact ⟨n + 1, by omega, fun R k => .two (fun c => i1.2.1 c.2) i1.1 ⟨dl, d0⟩ i2.1 (by omega) k⟩
theorem runs_read {s : ByteArray} (rs : List (Nat × Nat)) : ∀ {a : Nat} {x : Cls} {n : Nat}, (∀ r ∈ rs, r.1 ≤ r.2 ∧ r.2 < 256) → At s a (runsW rs ++ ⟨#[93]⟩) →
  ∃ n', n + rs.length ≤ n' ∧ ClassRun s a x n (.ok (unionC rs x, n') (a + (runsW rs).size + 1)) := by
 induction rs with
 | nil =>
  intro a x n _ h
  have h1 := h.right
  have e0 := h1.eq 0 (by decide)
  have l0 := h1.lt 0 (by decide)
  exact ⟨n, by simp, .stop l0 e0⟩
 | cons r rs ih =>
  intro a x n hr h
  have hr1 := hr r (by simp)
  rw [runsW, ByteArray.append_assoc] at h
  have h1 := h.left
  have h2 := h.right
  have hn : byteAt s (a + (runW r).size) ≠ 45 := by
   cases rs with
   | nil =>
    have e0 := (h2.right).eq 0 (by decide)
    replace e0 : byteAt s (a + (runW r).size) = 93 := e0
    omega
   | cons q qs =>
    rw [runsW, ByteArray.append_assoc] at h2
    have hq := hr q (by simp)
    exact (runW_first (by omega) h2.left).2.2
  obtain ⟨n1, hn1, hk1⟩ := run_read hr1.1 hr1.2 h1 hn (x := x) (n := n)
  obtain ⟨n', hn', hk⟩ := ih (a := a + (runW r).size) (x := x ||| rangeC r.1 r.2) (n := n1) (fun q hq => hr q (by simp [hq])) h2
  refine ⟨n', by rw [List.length_cons]; omega, hk1 _ ?_⟩
  rw [runsW, ByteArray.size_append, ← Nat.add_assoc]
  exact hk
theorem unionC_get (rs : List (Nat × Nat)) : ∀ (x : Cls) {i : Nat}, i < 256 → (unionC rs x).getLsbD i = (x.getLsbD i || rs.any fun r => decide (r.1 ≤ i) && decide (i ≤ r.2)) := by
 induction rs with
 | nil => intro x i hi; simp [unionC]
 | cons r rs ih =>
  intro x i hi
  have := ih (x ||| rangeC r.1 r.2) hi
  unfold unionC at this ⊢
  rw [List.foldl_cons, this, BitVec.getLsbD_or, rangeC_get _ _ hi, List.any_cons, Bool.or_assoc]
theorem runsTo_last (x : Cls) (k : Nat) (h : x.getLsbD k = true) : ∃ rs a, runsTo x (k + 1) = rs ++ [(a, k)] ∧ a ≤ k := by
 induction k with
 | zero => exact ⟨[], 0, by rw [runsTo_succ]; unfold runsStep; rw [if_pos h, if_neg (by omega)]; rfl, by omega⟩
 | succ k ih =>
  rw [runsTo_succ]; unfold runsStep
  rw [if_pos h]
  by_cases hk : x.getLsbD k = true
  ·rw [if_pos ⟨by omega, by simpa using hk⟩]
   obtain ⟨rs, a, e, ha⟩ := ih hk
   rw [e]
   exact ⟨rs, a, by simp, by omega⟩
  ·rw [if_neg (by intro c; exact hk (by simpa using c.2))]
   exact ⟨_, _, rfl, by omega⟩
theorem runsTo_any (x : Cls) (k i : Nat) : ((runsTo x k).any fun r => decide (r.1 ≤ i) && decide (i ≤ r.2)) = (decide (i < k) && x.getLsbD i) := by
 induction k with
 | zero => simp [runsTo]
 | succ k ih =>
  rw [runsTo_succ]
  unfold runsStep
  by_cases hk : x.getLsbD k = true
  ·rw [if_pos hk]
   by_cases hp : 0 < k ∧ x.getLsbD (k - 1) = true
   ·rw [if_pos hp]
    obtain ⟨rs, a, e, ha⟩ := runsTo_last x (k - 1) hp.2
    rw [show k - 1 + 1 = k from by omega] at e
    rw [e] at ih ⊢
    simp only [List.dropLast_concat, List.getLastD_concat, List.any_append, List.any_cons, List.any_nil, Bool.or_false] at ih ⊢
    by_cases hik : i = k
    ·subst hik
     have : (decide (a ≤ i) && decide (i ≤ i)) = true := by simp; omega
     rw [this, hk]; simp
    ·have e2 : (decide (a ≤ i) && decide (i ≤ k)) = (decide (a ≤ i) && decide (i ≤ k - 1)) := by rw [Bool.eq_iff_iff]; simp; omega
     have e3 : decide (i < k + 1) = decide (i < k) := decide_eq_decide.2 (by omega)
     rw [e2, ih, e3]
   ·rw [if_neg hp, List.any_append, ih]
    simp only [List.any_cons, List.any_nil, Bool.or_false]
    by_cases hik : i = k
    ·subst hik; rw [hk]; simp
    ·have e2 : (decide (k ≤ i) && decide (i ≤ k)) = false := by rw [Bool.eq_false_iff]; simp; omega
     have e3 : decide (i < k + 1) = decide (i < k) := decide_eq_decide.2 (by omega)
     rw [e2, e3]; simp
  ·rw [if_neg hk, ih]
   by_cases hik : i = k
   ·subst hik; simp [hk]
   ·have e3 : decide (i < k + 1) = decide (i < k) := decide_eq_decide.2 (by omega)
    rw [e3]
theorem unionC_runs (x : Cls) : unionC (runsC x) 0 = x := cls_ext fun i hi => by
 unfold runsC
 rw [unionC_get _ _ hi, runsTo_any]; simp [hi]
theorem singleC_eq {x : Cls} {b : Nat} (h : singleC x = some b) : x = BitVec.twoPow 256 b := by
 unfold singleC at h
 cases hf : (List.range 256).find? fun b => x.getLsbD b with
 | none => rw [hf] at h; cases h
 | some q =>
  rw [hf] at h
  simp only [Option.bind_some] at h
  split at h
  ·injection h with h; subst h; assumption
  ·cases h
theorem elem_read {s : ByteArray} {a : Nat} {x : Cls} (hx : x ≠ 0) (h : At s a (elemD x)) : ElemRd s a (.ok x (a + (elemD x).size)) ∧ byteAt s a ≠ 34 ∧ 0 < (elemD x).size := by
 unfold elemD elemS at *
 by_cases hf : x = fullC
 ·rw [if_pos hf] at *
  have e0 := h.eq 0 (by decide)
  replace e0 : byteAt s a = 63 := e0
  refine ⟨?_, by omega, by decide⟩
  rw [hf]; exact .full e0
 ·rw [if_neg hf] at *
  cases hb : singleC x with
  | some b =>
   rw [hb] at h
   simp only [Option.getD_some] at h ⊢
   have hb256 := singleC_lt hb
   have h1 := one_written Wr.outside hb256 h
   have z := (writtenS_size b outsideSet).1
   have hne : byteAt s a ≠ 34 ∧ byteAt s a ≠ 63 ∧ byteAt s a ≠ 91 := by
    rcases h1.2 with h2 | ⟨h2, h3⟩
    ·omega
    ·have := (set_esc' ⟨b, hb256⟩).2.2.2 h3
     simp only at this; omega
   refine ⟨?_, hne.1, by omega⟩
   have := ElemRd.byte (s := s) (a := a) hne.2.1 hne.2.2
   rw [h1.1] at this
   rw [singleC_eq hb]
   exact this
  | none =>
   rw [hb] at h
   simp only [if_neg hx, Option.getD_some] at h ⊢
   unfold runsT at *
   rw [foldl_runT (runsC x) _ (fun r hr => (runs_ok x 256 r hr).1)] at h ⊢
   have h1 := h.left.left
   have h2 : At s (a + 1) (runsW (runsC x) ++ ⟨#[93]⟩) := by
    rw [ByteArray.append_assoc] at h; exact h.right
   have e0 := h1.eq 0 (by decide)
   replace e0 : byteAt s a = 91 := e0
   have hne : runsC x ≠ [] := fun e => hx ((runsC_nil x).1 e)
   have hng : negS s a = false := by
    unfold negS
    rw [decide_eq_false_iff_not]
    rintro ⟨_, c⟩
    cases hr : runsC x with
    | nil => exact hne hr
    | cons r rs =>
     rw [hr, runsW, ByteArray.append_assoc] at h2
     have := runs_ok x 256 r (by unfold runsC at hr; rw [hr]; simp)
     exact (runW_first (by omega) h2.left).2.1 c
   obtain ⟨n', hn', hk⟩ := runs_read (runsC x) (x := 0) (n := 0) (fun r hr => runs_ok x 256 r hr) h2
   rw [unionC_runs] at hk
   have hl : 0 < (runsC x).length := List.length_pos_iff.2 hne
   have := ElemRd.cls (s := s) (a := a) e0 (R := .ok (x, n') (a + 1 + (runsW (runsC x)).size + 1)) (by unfold beginS; rw [hng]; exact hk)
   rw [hng] at this
   have e : finC false a (.ok (x, n') (a + 1 + (runsW (runsC x)).size + 1)) = .ok x (a + 1 + (runsW (runsC x)).size + 1) := by
    show (if n' = 0 ∨ x = 0 then Rd.bad a 132 else Rd.ok x _) = _
    rw [if_neg (by rintro (c | c); omega; exact hx c)]
   rw [e] at this
   have z1 : (⟨#[91]⟩ : ByteArray).size = 1 := rfl
   have z2 : (⟨#[93]⟩ : ByteArray).size = 1 := rfl
   rw [ByteArray.size_append, ByteArray.size_append, z1, z2]
   refine ⟨?_, by omega, by omega⟩
   rw [show a + (1 + (runsW (runsC x)).size + 1) = a + 1 + (runsW (runsC x)).size + 1 from by omega]
   exact this
def elemsW : List Cls → ByteArray
 | [] => ByteArray.empty
 | x :: xs => elemD x ++ elemsW xs
theorem elemsT_go (xs : List Cls) : ∀ (out : ByteArray), xs.foldl (fun out x => out ++ elemD x) out = out ++ elemsW xs := by
 induction xs with
 | nil => intro out; exact (ByteArray.append_empty).symm
 | cons x xs ih => intro out; rw [List.foldl_cons, ih, elemsW, ByteArray.append_assoc]
theorem elemsT_eq (xs : List Cls) : elemsT xs = ⟨#[34]⟩ ++ elemsW xs := elemsT_go xs _
theorem pat_read {s : ByteArray} (xs : List Cls) : ∀ {a : Nat} {ys : List Cls}, (∀ x ∈ xs, x ≠ 0) → (ys ++ xs).length ≤ 64 → 0 < (ys ++ xs).length → At s a (elemsW xs ++ ⟨#[34]⟩) →
  PatRun s a ys (.ok (ys ++ xs) (a + (elemsW xs).size + 1)) := by
 induction xs with
 | nil =>
  intro a ys _ _ h0 h
  rw [List.append_nil] at *
  have h1 := h.right
  exact .close (h1.lt 0 (by decide)) (h1.eq 0 (by decide)) h0
 | cons x xs ih =>
  intro a ys hx hl h0 h
  rw [elemsW, ByteArray.append_assoc] at h
  have h1 := elem_read (hx x (by simp)) h.left
  have hlt := h.left.lt 0 h1.2.2
  have := ih (a := a + (elemD x).size) (ys := ys ++ [x]) (fun y hy => hx y (by simp [hy])) (by simpa using hl) (by simp; omega) h.right
  rw [List.append_assoc] at this
  refine .step (by omega) h1.2.1 (by simp at hl; omega) h1.1 ?_
  rw [elemsW, ByteArray.size_append, ← Nat.add_assoc]
  exact this
theorem decS_pos (n : Nat) : 0 < (decS n).size := by
 by_cases h : n < 10
 ·rw [decS_few h, byteS_size]; omega
 ·rw [decS_more h, ByteArray.size_append, byteS_size]; omega
theorem dec_read {s : ByteArray} (n : Nat) : ∀ {a : Nat}, At s a (decS n) → (∀ j, j < (decS n).size → isDig s (a + j)) ∧ valD s a (decS n).size = n ∧ (1 ≤ n → byteAt s a ≠ 48) ∧ (n < 10 → (decS n).size = 1) := by
 induction n using Nat.strongRecOn with
 | _ n ih =>
  intro a h
  by_cases hn : n < 10
  ·rw [decS_few hn] at *
   have z := byteS_size (48 + n)
   have e0 := h.eq 0 (by omega)
   have l0 := h.lt 0 (by omega)
   rw [byteS_at _ (by omega)] at e0
   rw [Nat.add_zero] at e0 l0
   rw [z]
   refine ⟨fun j hj => ?_, ?_, fun h1 => by omega, fun _ => rfl⟩
   ·obtain rfl : j = 0 := by omega
    rw [Nat.add_zero]; unfold isDig; omega
   ·show 10 * 0 + (byteAt s (a + 0) - 48) = n
    rw [Nat.add_zero]; omega
  ·rw [decS_more hn] at *
   have z := byteS_size (48 + n % 10)
   have h1 := ih (n / 10) (by omega) h.left
   have h2 := h.right
   have e0 := h2.eq 0 (by omega)
   have l0 := h2.lt 0 (by omega)
   rw [byteS_at _ (by omega)] at e0
   rw [Nat.add_zero] at e0 l0
   rw [ByteArray.size_append, z]
   refine ⟨fun j hj => ?_, ?_, fun _ => h1.2.2.1 (by omega), fun h => by omega⟩
   ·rcases Nat.lt_or_ge j (decS (n / 10)).size with hj' | hj'
    ·exact h1.1 j hj'
    ·obtain rfl : j = (decS (n / 10)).size := by omega
     unfold isDig; omega
   ·show 10 * valD s a (decS (n / 10)).size + (byteAt s (a + (decS (n / 10)).size) - 48) = n
    rw [h1.2.1, e0]; omega
theorem num_read {s : ByteArray} {n a : Nat} (hn : n ≤ 1000000) (h : At s a (decS n)) (hf : ¬ isDig s (a + (decS n).size)) : DigRun s a (decS n).size ∧ numS s a (decS n).size = .ok n (a + (decS n).size) := by
 have h1 := dec_read n h
 have hp := decS_pos n
 refine ⟨⟨h1.1, hf⟩, ?_⟩
 unfold numS
 rw [if_neg, h1.2.1]
 rintro (h2 | ⟨h2, h3⟩ | h2)
 ·omega
 ·by_cases hz : 1 ≤ n
  ·exact h1.2.2.1 hz h2
  ·have := h1.2.2.2 (by omega); omega
 ·rw [h1.2.1] at h2; omega
theorem sgn_at' : ∀ k : Fin 8, 1 ≤ k.val → (sgnS (k.val : Int)).size = 1 ∧ kindV (byteAt (sgnS (k.val : Int)) 0) = k.val ∧ byteAt (sgnS (k.val : Int)) 0 ≠ 34 ∧ byteAt (sgnS (k.val : Int)) 0 ≠ 32 ∧ ¬ (48 ≤ byteAt (sgnS (k.val : Int)) 0 ∧ byteAt (sgnS (k.val : Int)) 0 ≤ 57) := by decide +kernel
theorem tok_read {s : ByteArray} {a : Nat} {kd n : Int} {xs : List Cls} {u : ByteArray} (h : printS kd n xs = some u) (hA : At s a u) (hf : ¬ isDig s (a + u.size)) :
  TokRd s a (.ok ⟨kd.toNat, a, n.toNat, xs⟩ (a + u.size)) ∧ 0 < u.size ∧ byteAt s a ≠ 32 ∧ 1 ≤ kd ∧ kd ≤ 8 ∧ 0 ≤ n ∧ n ≤ 1000000 ∧ ¬ isDig s a := by
 by_cases ho : kd < 1 ∨ 8 < kd ∨ n < 0 ∨ 1000000 < n
 ·rw [printS_out ho] at h; cases h
 rw [printS_in ho] at h
 by_cases hk : kd = 8
 ·subst hk
  rw [if_pos rfl] at h
  by_cases hc : n = 0 ∧ rightB xs 0 = true
  ·rw [if_pos hc] at h
   injection h with h
   obtain ⟨rfl, hr⟩ := hc
   unfold rightB at hr
   have hr := of_decide_eq_true hr
   rw [← h, elemsT_eq, ByteArray.append_assoc] at hA ⊢
   have h1 := hA.left
   have h2 : At s (a + 1) (elemsW xs ++ ⟨#[34]⟩) := hA.right
   have e0 := h1.eq 0 (by decide)
   replace e0 : byteAt s a = 34 := e0
   have hp := pat_read (ys := []) xs (fun x hx e => hr.2.2.1 (e ▸ hx)) (by simpa using hr.2.1) (by simp; omega) h2
   have z1 : (⟨#[34]⟩ : ByteArray).size = 1 := rfl
   have z : (⟨#[34]⟩ ++ (elemsW xs ++ ⟨#[34]⟩) : ByteArray).size = 1 + (elemsW xs).size + 1 := by rw [ByteArray.size_append, ByteArray.size_append, z1]; omega
   rw [z]
   refine ⟨?_, by omega, by omega, by omega, by omega, by omega, by omega, by unfold isDig; omega⟩
   have := TokRd.pat (s := s) (a := a) e0 hp
   rw [show a + (1 + (elemsW xs).size + 1) = a + 1 + (elemsW xs).size + 1 from by omega]
   exact this
  ·rw [if_neg hc] at h; cases h
 ·rw [if_neg hk] at h
  by_cases hx : 0 < xs.length
  ·rw [if_pos hx] at h; cases h
  rw [if_neg hx] at h
  obtain rfl : xs = [] := List.eq_nil_of_length_eq_zero (by omega)
  obtain ⟨k, rfl⟩ : ∃ k : Nat, kd = k := ⟨kd.toNat, by omega⟩
  obtain ⟨m, rfl⟩ : ∃ m : Nat, n = m := ⟨n.toNat, by omega⟩
  have hs := sgn_at' ⟨k, by omega⟩ (by simp only; omega)
  simp only at hs
  by_cases h6 : (6 : Int) ≤ (k : Int)
  ·rw [if_pos h6] at h
   injection h with h
   rw [Int.toNat_natCast] at h
   rw [← h] at hA hf ⊢
   have h1 := hA.left
   have h2 := hA.right
   have e0 := h1.eq 0 (by omega)
   rw [Nat.add_zero] at e0
   rw [ByteArray.size_append] at hf ⊢
   rw [hs.1] at h2 hf ⊢
   rw [← Nat.add_assoc] at hf ⊢
   have hd := num_read (by omega) h2 hf
   have := TokRd.num (s := s) (a := a) (k := k) (m := (decS m).size) (by rw [e0]; exact hs.2.2.1) (by rw [e0]; exact hs.2.1) (by omega) hd.1
   rw [hd.2] at this
   refine ⟨by rw [Int.toNat_natCast, Int.toNat_natCast]; exact this, by omega, by rw [e0]; exact hs.2.2.2.1, by omega, by omega, by omega, by omega, fun hd => ?_⟩
   unfold isDig at hd; rw [e0] at hd; exact hs.2.2.2.2 hd.2
  ·rw [if_neg h6] at h
   by_cases hz : (m : Int) = 0
   ·rw [if_pos hz] at h
    injection h with h
    rw [← h] at hA hf ⊢
    have e0 := hA.eq 0 (by omega)
    rw [Nat.add_zero] at e0
    rw [hs.1]
    have := TokRd.sign (s := s) (a := a) (k := k) (by rw [e0]; exact hs.2.2.1) (by rw [e0]; exact hs.2.1) (by omega) (by omega)
    have hm : m = 0 := by omega
    subst hm
    refine ⟨by rw [Int.toNat_natCast]; exact this, by omega, by rw [e0]; exact hs.2.2.2.1, by omega, by omega, by omega, by omega, fun hd => ?_⟩
    unfold isDig at hd; rw [e0] at hd; exact hs.2.2.2.2 hd.2
   ·rw [if_neg hz] at h; cases h
end Go.Proofs.YtoelilejohfglaaGreat
