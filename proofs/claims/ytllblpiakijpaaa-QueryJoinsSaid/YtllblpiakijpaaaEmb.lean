/- Layer 13: a text within another one is read there as by itself, if no digit follows: plain words. -/
import Derived.Test.YtllblpiakijpaaaBunG
namespace Go.Proofs.Ytllblpiakijpaaa
open Go.RowKit
set_option linter.unusedVariables false
/-- The first text lies in the second one, at a place; no digit is behind it. -/
structure Emb (s t : ByteArray) (o : Nat) : Prop where
  le : o + s.size ≤ t.size
  eq : ∀ k, k < s.size → byteAt t (o + k) = byteAt s k
  nd : ¬ isDig t (o + s.size)
theorem Emb.esc {s t : ByteArray} {o a v b : Nat} (h : Emb s t o) (e : escS s a = .ok v b) : escS t (o + a) = .ok v (o + b) := by
  obtain ⟨hle, heq, -⟩ := h
  have q1 : a + 1 < s.size → byteAt t (o + a + 1) = byteAt s (a + 1) := fun hk => heq (a + 1) hk
  have q2 : a + 2 < s.size → byteAt t (o + a + 2) = byteAt s (a + 2) := fun hk => heq (a + 2) hk
  have q3 : a + 3 < s.size → byteAt t (o + a + 3) = byteAt s (a + 3) := fun hk => heq (a + 3) hk
  unfold escS at e ⊢
  by_cases c1 : a + 1 < s.size ∧ inS escSet (byteAt s (a + 1)) = true
  · rw [if_pos c1] at e
    injection e with e1 e2
    rw [if_pos ⟨by omega, by rw [q1 c1.1]; exact c1.2⟩, q1 c1.1, e1, ← e2]; rfl
  · rw [if_neg c1] at e
    by_cases c2 : a + 3 < s.size ∧ byteAt s (a + 1) = 120 ∧ 0 ≤ hexV (byteAt s (a + 2)) ∧ 0 ≤ hexV (byteAt s (a + 3))
    · rw [if_pos c2] at e
      injection e with e1 e2
      have hz := c2.1
      rw [if_neg, if_pos, q2 (by omega), q3 (by omega), e1, ← e2]
      · rfl
      · exact ⟨by omega, by rw [q1 (by omega)]; exact c2.2.1, by rw [q2 (by omega)]; exact c2.2.2.1, by rw [q3 (by omega)]; exact c2.2.2.2⟩
      · rintro ⟨c3, c4⟩; exact c1 ⟨by omega, by rw [← q1 (by omega)]; exact c4⟩
    · rw [if_neg c2] at e; cases e
theorem Emb.one {s t : ByteArray} {o a v b : Nat} {ap : ByteArray} {no : Int} (h : Emb s t o) (e : oneS ap no s a = .ok v b) (ha : a < s.size) : oneS ap no t (o + a) = .ok v (o + b) := by
  have ea := h.eq a ha
  unfold oneS at e ⊢
  rw [ea]
  split at e
  · rename_i c; rw [if_pos c]; exact h.esc e
  · rename_i c; rw [if_neg c]
    split at e
    · rename_i c2; rw [if_pos c2]; injection e with e1 e2; rw [e1, ← e2]; rfl
    · cases e
theorem Emb.item {s t : ByteArray} {o a v b : Nat} (h : Emb s t o) (e : itemS s a = .ok v b) : itemS t (o + a) = .ok v (o + b) := by
  unfold itemS at e ⊢
  split at e
  · rename_i c; rw [if_pos (by have := h.le; omega)]; exact h.one e c
  · cases e
theorem Emb.not {s t : ByteArray} {o b x : Nat} (h : Emb s t o) (hb : b < s.size) (c : ¬ (b < s.size ∧ byteAt s b = x)) : ¬ (o + b < t.size ∧ byteAt t (o + b) = x) := by
  rintro ⟨c1, c2⟩; exact c ⟨hb, by rw [← h.eq b hb]; exact c2⟩
theorem Emb.yes {s t : ByteArray} {o b x : Nat} (h : Emb s t o) (c : b < s.size ∧ byteAt s b = x) : o + b < t.size ∧ byteAt t (o + b) = x :=
  ⟨by have := h.le; have := c.1; omega, by rw [h.eq b c.1]; exact c.2⟩
theorem Emb.cls {s t : ByteArray} {o a : Nat} {x : Cls} {n : Nat} {R : Rd (Cls × Nat)} (h : Emb s t o) (e : ClassRun s a x n R) : a ≤ s.size → ∀ y b, R = .ok y b → ClassRun t (o + a) x n (.ok y (o + b)) := by
  induction e with
  | stop h1 hb => intro _ y b e; injection e with e1 e2; rw [← e1, ← e2]; exact .stop (by have := h.le; omega) (by rw [h.eq _ h1]; exact hb)
  | bad1 h1 h2 => intro _ y b e; cases e
  | one h1 h2 h3 k ih =>
    rintro _ y b rfl
    have h4 := itemS_ok h2
    have h5 := (k.placed h4.2.1).lt rfl
    have h6 := (k.placed h4.2.1).le
    simp only [Rd.at_] at h5 h6
    exact .one (h.not (by omega) h1) (h.item h2) (h.not (by omega) h3) (ih h4.2.1 y b rfl)
  | bad2 h1 h2 h3 h4 => intro _ y b e; cases e
  | less h1 h2 h3 h4 h5 => intro _ y b e; cases e
  | two h1 h2 h3 h4 h5 k ih =>
    rintro _ y b rfl
    have h6 := itemS_ok h2
    have h7 := itemS_ok h4
    exact .two (h.not (by omega) h1) (h.item h2) (h.yes h3) (h.item h4) h5 (ih h7.2.1 y b rfl)
theorem Emb.neg {s t : ByteArray} {o a : Nat} (h : Emb s t o) (ha : a + 1 < s.size) : negS t (o + a) = negS s a := by
  unfold negS
  have q1 : byteAt t (o + a + 1) = byteAt s (a + 1) := h.eq (a + 1) ha
  rw [q1, Bool.eq_iff_iff]
  simp only [decide_eq_true_eq]
  have := h.le
  constructor
  · rintro ⟨_, h2⟩; exact ⟨ha, h2⟩
  · rintro ⟨_, h2⟩; exact ⟨by omega, h2⟩
theorem Emb.elem {s t : ByteArray} {o a : Nat} {R : Rd Cls} (h : Emb s t o) (e : ElemRd s a R) (ha : a < s.size) {x : Cls} {b : Nat} (hR : R = .ok x b) : ElemRd t (o + a) (.ok x (o + b)) := by
  cases e with
  | full h1 => injection hR with e1 e2; rw [← e1, ← e2]; exact .full (by rw [h.eq a ha]; exact h1)
  | @cls R0 h1 k =>
    obtain ⟨y, rfl⟩ := finC_ok hR
    have hbg := beginS_le s a ha
    have h3 := (k.placed hbg.2).lt rfl
    have h4 := (k.placed hbg.2).le
    simp only [Rd.at_] at h3 h4
    have hn := h.neg (a := a) (by unfold beginS at h3; split at h3 <;> omega)
    have hbe : beginS t (o + a) = o + beginS s a := by
      unfold beginS; rw [hn]; split <;> rfl
    have hk := h.cls k hbg.2 y b rfl
    rw [← hbe] at hk
    have := ElemRd.cls (s := t) (a := o + a) (by rw [h.eq a ha]; exact h1) hk
    rw [hn] at this
    obtain ⟨c, n⟩ := y
    have e1 : finC (negS s a) a (.ok (c, n) b) = if n = 0 ∨ (if negS s a then ~~~ c else c) = 0 then .bad a 132 else .ok (if negS s a then ~~~ c else c) b := rfl
    have e2 : finC (negS s a) (o + a) (.ok (c, n) (o + b)) = if n = 0 ∨ (if negS s a then ~~~ c else c) = 0 then .bad (o + a) 132 else .ok (if negS s a then ~~~ c else c) (o + b) := rfl
    rw [e1] at hR
    rw [e2] at this
    by_cases hc : n = 0 ∨ (if negS s a then ~~~ c else c) = 0
    · rw [if_pos hc] at hR; cases hR
    · rw [if_neg hc] at hR this; injection hR with e3 e4; rw [e3] at this; exact this
  | byte h1 h2 =>
    obtain ⟨v, hv, rfl⟩ := Rd.map_ok hR
    have h3 := h.one hv ha
    have := ElemRd.byte (s := t) (a := o + a) (by rw [h.eq a ha]; exact h1) (by rw [h.eq a ha]; exact h2)
    rw [h3] at this
    exact this
theorem Emb.pat {s t : ByteArray} {o a : Nat} {xs : List Cls} {R : Rd (List Cls)} (h : Emb s t o) (e : PatRun s a xs R) : a ≤ s.size → ∀ y b, R = .ok y b → PatRun t (o + a) xs (.ok y (o + b)) := by
  induction e with
  | stop h1 => intro _ y b e; cases e
  | close h1 hb h2 =>
    intro _ y b e
    injection e with e1 e2
    rw [← e1, ← e2]
    exact .close (by have := h.le; omega) (by rw [h.eq _ h1]; exact hb) h2
  | empty h1 hb h2 => intro _ y b e; cases e
  | long h1 hb h2 => intro _ y b e; cases e
  | bad h1 hb h2 k => intro _ y b e; cases e
  | step h1 hb h2 k r ih =>
    intro ha y b e
    have h3 := (k.placed h1).le
    simp only [Rd.at_] at h3
    exact .step (by have := h.le; omega) (by rw [h.eq _ h1]; exact hb) h2 (h.elem k h1 rfl) (ih h3 y b e)
theorem Emb.val {s t : ByteArray} {o a : Nat} (h : Emb s t o) : ∀ j, a + j ≤ s.size → valD t (o + a) j = valD s a j
  | 0, _ => rfl
  | j + 1, hj => by
    unfold valD
    rw [h.val j (by omega), Nat.add_assoc o a j, h.eq (a + j) (by omega)]
theorem Emb.dig {s t : ByteArray} {o a : Nat} (h : Emb s t o) (ha : a < s.size) : isDig t (o + a) ↔ isDig s a := by
  unfold isDig
  rw [h.eq a ha]
  have := h.le
  constructor
  · rintro ⟨_, h2⟩; exact ⟨ha, h2⟩
  · rintro ⟨_, h2⟩; exact ⟨by omega, h2⟩
def Tok.sh (o : Nat) (t : Tok) : Tok := ⟨t.kind, o + t.at_, t.n, t.p⟩
theorem Tok.sh_key (o : Nat) (t : Tok) : (t.sh o).kind = t.kind ∧ (t.sh o).n = t.n ∧ (t.sh o).p = t.p := ⟨rfl, rfl, rfl⟩
theorem Emb.tok {s t : ByteArray} {o a : Nat} {R : Rd Tok} (h : Emb s t o) (e : TokRd s a R) (ha : a < s.size) {tk : Tok} {b : Nat} (hR : R = .ok tk b) : TokRd t (o + a) (.ok (tk.sh o) (o + b)) := by
  have hpl := e.placed ha
  cases e with
  | @pat R0 h1 k =>
    obtain ⟨x, rfl, rfl⟩ := Rd.map_ok hR
    have := TokRd.pat (s := t) (a := o + a) (by rw [h.eq a ha]; exact h1) (h.pat k (by omega) x b rfl)
    exact this
  | none h1 h2 => cases hR
  | sign h1 h2 h3 h4 =>
    injection hR with e1 e2
    subst e1 e2
    exact .sign (by rw [h.eq a ha]; exact h1) (by rw [h.eq a ha]; exact h2) h3 h4
  | @num k n h1 h2 h3 h4 =>
    obtain ⟨v, hv, rfl⟩ := Rd.map_ok hR
    obtain ⟨h5, h6, h7⟩ := numS_ok hv
    have hlast := (h4.yes (n - 1) (by omega)).1
    have hsz : a + 1 + n ≤ s.size := by omega
    have hfirst : a + 1 < s.size := by omega
    have q1 : byteAt t (o + a + 1) = byteAt s (a + 1) := h.eq (a + 1) hfirst
    have hvv : valD t (o + a + 1) n = valD s (a + 1) n := h.val (a := a + 1) n hsz
    have hn : numS t (o + a + 1) n = .ok v (o + b) := by
      unfold numS at hv ⊢
      rw [hvv, q1]
      split at hv
      · cases hv
      · rename_i c; rw [if_neg c]; injection hv with e1 e2; rw [e1, ← e2]; congr 1; omega
    have hd : DigRun t (o + a + 1) n := ⟨fun j hj => by
      have := (h.dig (a := a + 1 + j) (by omega)).2 (h4.yes j hj)
      rwa [show o + (a + 1 + j) = o + a + 1 + j from by omega] at this, fun hd => by
      rcases Nat.lt_or_ge (a + 1 + n) s.size with hh | hh
      · exact h4.no ((h.dig hh).1 (by rwa [show o + (a + 1 + n) = o + a + 1 + n from by omega]))
      · exact h.nd (by rwa [show o + s.size = o + a + 1 + n from by omega])⟩
    have := TokRd.num (s := t) (a := o + a) (k := k) (m := n) (by rw [h.eq a ha]; exact h1) (by rw [h.eq a ha]; exact h2) h3 hd
    rw [hn] at this
    exact this
theorem Emb.lex {s t : ByteArray} {o a : Nat} {l : List Tok} {R : Rd (List Tok)} (h : Emb s t o) (e : LexRun s a l R) : a ≤ s.size → ∀ l' n, R = .ok l' n → ∃ ts, l' = l ++ ts ∧ ∀ L R', LexRun t (o + s.size) (L ++ ts.map (Tok.sh o)) R' → LexRun t (o + a) L R' := by
  induction e with
  | @stop a l h1 =>
    intro ha l' n e
    injection e with e1 e2
    obtain rfl : a = s.size := by omega
    exact ⟨[], by rw [e1, List.append_nil], fun L R' hr => by simpa using hr⟩
  | blank h1 hb k ih =>
    intro ha l' n e
    obtain ⟨ts, h2, h3⟩ := ih (by omega) l' n e
    exact ⟨ts, h2, fun L R' hr => .blank (by have := h.le; omega) (by rw [h.eq _ h1]; exact hb) (h3 L R' hr)⟩
  | bad h1 hb k => intro ha l' n e; cases e
  | @step a l tk b R h1 hb k r ih =>
    intro ha l' n e
    have h2 := (k.placed h1).le
    simp only [Rd.at_] at h2
    obtain ⟨ts, h3, h4⟩ := ih h2 l' n e
    refine ⟨tk :: ts, by rw [h3]; simp, fun L R' hr => ?_⟩
    refine .step (by have := h.le; omega) (by rw [h.eq _ h1]; exact hb) (h.tok k h1 rfl) (h4 _ R' ?_)
    simpa using hr
end Go.Proofs.Ytllblpiakijpaaa
