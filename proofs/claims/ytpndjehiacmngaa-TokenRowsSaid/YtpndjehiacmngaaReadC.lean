/- Layer 13: texts made of blanks and printed tokens are read. Plain words. -/
import Derived.Test.YtpndjehiacmngaaBunG
namespace Go.Proofs.Ytpndjehiacmngaa
open Go.RowKit
set_option linter.unusedVariables false
def blankS : ByteArray := ⟨#[32]⟩
/-- Blanks and tokens, one behind the other. -/
inductive TextRun : ByteArray → List Tok → Prop
  | nil : TextRun ByteArray.empty []
  | blank {s : ByteArray} {l : List Tok} (h : TextRun s l) : TextRun (s ++ blankS) l
  | tok {s : ByteArray} {l : List Tok} {kd n : Int} {xs : List Cls} {u : ByteArray} (h : TextRun s l) (hp : printS kd n xs = some u) : TextRun (s ++ u) (l ++ [⟨kd.toNat, s.size, n.toNat, xs⟩])
theorem TextRun.read {s : ByteArray} {l : List Tok} (h : TextRun s l) : ∀ {T : ByteArray}, At T 0 s → ¬ isDig T s.size → ∀ R, LexRun T s.size l R → LexRun T 0 [] R := by
  induction h with
  | nil => intro T _ _ R hR; exact hR
  | @blank s l h ih =>
    intro T hA hd R hR
    have h2 := hA.right
    have e0 := h2.eq 0 (by decide)
    have l0 := h2.lt 0 (by decide)
    rw [Nat.zero_add] at e0 l0
    replace e0 : byteAt T s.size = 32 := e0
    replace l0 : s.size < T.size := l0
    have z : blankS.size = 1 := rfl
    rw [ByteArray.size_append, z] at hR
    exact ih hA.left (by unfold isDig; omega) R (.blank l0 e0 hR)
  | @tok s l kd n xs u h hp ih =>
    intro T hA hd R hR
    have h2 := hA.right
    rw [Nat.zero_add] at h2
    rw [ByteArray.size_append] at hd hR
    have hr := tok_read hp h2 hd
    have hlt := h2.lt 0 hr.2.1
    exact ih hA.left hr.2.2.2.2.2.2.2 R (.step (by omega) hr.2.2.1 hr.1 hR)
theorem TextRun.lex {s : ByteArray} {l : List Tok} (h : TextRun s l) (hs : s.size ≤ 1000) : lexS s (.ok l s.size) := by
  unfold lexS
  rw [if_neg (by omega)]
  exact h.read (At.self s) (by unfold isDig; omega) _ (.stop (Nat.le_refl _))
/-! Every token that is read can be printed. -/
theorem finC_ne {ng : Bool} {op : Nat} {R : Rd (Cls × Nat)} {x : Cls} {b : Nat} (h : finC ng op R = .ok x b) : x ≠ 0 := by
  cases R with
  | bad p e => cases h
  | ok v c =>
    obtain ⟨y, n⟩ := v
    have e : finC ng op (.ok (y, n) c) = if n = 0 ∨ (if ng then ~~~ y else y) = 0 then .bad op 132 else .ok (if ng then ~~~ y else y) c := rfl
    rw [e] at h
    by_cases hc : n = 0 ∨ (if ng then ~~~ y else y) = 0
    · rw [if_pos hc] at h; cases h
    · rw [if_neg hc] at h; injection h with h1 h2; rw [← h1]; exact fun e => hc (.inr e)
theorem full_ne : fullC ≠ 0 := by decide
theorem two_ne (b : Nat) (h : b < 256) : BitVec.twoPow 256 b ≠ (0 : Cls) := by
  intro e
  have : (BitVec.twoPow 256 b).getLsbD b = (0 : Cls).getLsbD b := by rw [e]
  simp [h] at this
theorem ElemRd.ne {s : ByteArray} {a : Nat} {R : Rd Cls} (h : ElemRd s a R) (ha : a < s.size) {x : Cls} {b : Nat} (hR : R = .ok x b) : x ≠ 0 := by
  cases h with
  | full h1 => injection hR with e1 e2; rw [← e1]; exact full_ne
  | cls h1 k => exact finC_ne hR
  | byte h1 h2 => obtain ⟨v, hv, rfl⟩ := Rd.map_ok hR; exact two_ne v (oneS_ok hv ha).2.2
theorem PatRun.ne {s : ByteArray} {a : Nat} {xs : List Cls} {R : Rd (List Cls)} (h : PatRun s a xs R) : (∀ x ∈ xs, x ≠ 0) → ∀ ys b, R = .ok ys b → ∀ y ∈ ys, y ≠ 0 := by
  induction h with
  | stop h => intro _ ys b e; cases e
  | close h hb h1 => intro hx ys b e; injection e with e1 e2; subst e1; exact hx
  | empty h hb h1 => intro _ ys b e; cases e
  | long h hb h1 => intro _ ys b e; cases e
  | bad h hb h1 k => intro _ ys b e; cases e
  | step h hb h1 k r ih =>
    intro hx
    refine ih fun y hy => ?_
    rw [List.mem_append, List.mem_singleton] at hy
    rcases hy with hy | rfl
    · exact hx y hy
    · exact k.ne h rfl
/-- A token that can be printed. -/
def printable (t : Tok) : Prop := ∃ u, printS t.kind t.n t.p = some u
theorem printable_pat {a : Nat} {xs : List Cls} (h1 : 0 < xs.length) (h2 : xs.length ≤ 64) (h3 : ∀ x ∈ xs, x ≠ 0) : printable ⟨8, a, 0, xs⟩ := by
  have hr : rightB xs 0 = true := by
    unfold rightB; rw [decide_eq_true_eq]; exact ⟨h1, h2, fun h => h3 0 h rfl, by omega, by omega⟩
  have e : printS 8 0 xs = some (elemsT xs ++ ⟨#[34]⟩) := by rw [printS_in (by omega), if_pos rfl, if_pos ⟨rfl, hr⟩]
  exact ⟨_, e⟩
theorem kindV_le' : ∀ b : Fin 256, kindV b.val ≤ 7 := by decide +kernel
theorem TokRd.printable {s : ByteArray} {a : Nat} {R : Rd Tok} (h : TokRd s a R) (ha : a < s.size) {t : Tok} {b : Nat} (hR : R = .ok t b) : Go.Proofs.Ytpndjehiacmngaa.printable t := by
  cases h with
  | @pat R0 h1 k =>
    obtain ⟨xs, hx, rfl⟩ := Rd.map_ok hR
    have h2 := k.len (by simp) xs b hx
    exact printable_pat h2.2 h2.1 (k.ne (by simp) xs b hx)
  | none h1 h2 => cases hR
  | @sign k h1 h2 h3 h4 =>
    injection hR with e1 e2; subst e1
    have e : printS (k : Int) 0 [] = some (sgnS k) := by rw [printS_in (by omega), if_neg (by omega), if_neg (by simp), if_neg (by omega), if_pos rfl]
    exact ⟨_, e⟩
  | @num k m h1 h2 h3 h4 =>
    obtain ⟨v, hv, rfl⟩ := Rd.map_ok hR
    have hk := kindV_le' ⟨byteAt s a, byteAt_lt s a⟩
    simp only at hk
    have hv' : v ≤ 1000000 := by
      unfold numS at hv
      split at hv
      · cases hv
      · injection hv with e1 e2; omega
    have e : printS (k : Int) (v : Int) [] = some (sgnS k ++ decS (v : Int).toNat) := by rw [printS_in (by omega), if_neg (by omega), if_neg (by simp), if_pos (by omega)]
    exact ⟨_, e⟩
theorem LexRun.printable {s : ByteArray} {a : Nat} {l : List Tok} {R : Rd (List Tok)} (h : LexRun s a l R) : (∀ t ∈ l, Go.Proofs.Ytpndjehiacmngaa.printable t) → ∀ l' b, R = .ok l' b → ∀ t ∈ l', Go.Proofs.Ytpndjehiacmngaa.printable t := by
  induction h with
  | stop h => intro hl l' b e; injection e with e1 e2; subst e1; exact hl
  | blank h hb k ih => exact ih
  | bad h hb k => intro hl l' b e; cases e
  | step h hb k r ih =>
    intro hl
    refine ih fun t ht => ?_
    rw [List.mem_append, List.mem_singleton] at ht
    rcases ht with ht | rfl
    · exact hl t ht
    · exact k.printable h rfl
theorem lexS_printable {s : ByteArray} {l : List Tok} {b : Nat} (h : lexS s (.ok l b)) : ∀ t ∈ l, printable t := by
  unfold lexS at h
  by_cases hb : 1000 < s.size
  · rw [if_pos hb] at h; cases h
  · rw [if_neg hb] at h; exact h.printable (by simp) l b rfl
end Go.Proofs.Ytpndjehiacmngaa
