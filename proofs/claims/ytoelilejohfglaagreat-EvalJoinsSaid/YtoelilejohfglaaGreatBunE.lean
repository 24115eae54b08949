/- Joined texts: TokT TokU TokV TokW. -/
import Derived.Test.YtoelilejohfglaaGreatBunD
import Derived.Test.YtoelilejohfglaaGreatBunA
namespace Go.Proofs.YtoelilejohfglaaGreat
open Go.RowKit
set_option linter.unusedVariables false
set_option linter.unusedSimpArgs false
attribute [local go_sem ↓] Go.wp_at_zero Go.wp_at_succ
end Go.Proofs.YtoelilejohfglaaGreat
namespace Go.Proofs.YtoelilejohfglaaGreat
open Go.RowKit
set_option linter.unusedVariables false
set_option linter.unusedSimpArgs false
attribute [local go_sem ↓] Go.wp_at_zero Go.wp_at_succ
structure Placed {α : Type} (s : ByteArray) (a : Nat) (R : Rd α) : Prop where
 le : R.at_ ≤ s.size
 lt : R.no = 0 → a < R.at_
 ok : (∀ v nx, R ≠ .ok v nx) → R.no ≠ 0
theorem oneS_placed (ap : ByteArray) (no : Int) (s : ByteArray) (a : Nat) (ha : a < s.size) (hn : no ≠ 0) : Placed s a (oneS ap no s a) := by
 cases h : oneS ap no s a with
 | ok v b => have := oneS_ok h ha; exact ⟨this.2.1, fun _ => this.1, fun h => absurd rfl (h _ _)⟩
 | bad p e => have := oneS_bad h hn; exact ⟨by simp only [Rd.at_]; omega, fun h => by simp only [Rd.no] at h; omega, fun _ => by simp only [Rd.no]; omega⟩
theorem ClassRun.placed {s : ByteArray} {a : Nat} {x : Cls} {n : Nat} {R : Rd (Cls × Nat)} (h : ClassRun s a x n R) : a ≤ s.size → Placed s a R := by
 induction h with
 | stop h hb => intro _; exact ⟨by simp only [Rd.at_]; omega, fun _ => by simp only [Rd.at_]; omega, fun h => absurd rfl (h _ _)⟩
 | bad1 h h1 => intro ha; have := itemS_bad h1 ha; exact ⟨by simp only [Rd.at_]; omega, fun h => by simp only [Rd.no] at h; omega, fun _ => by simp only [Rd.no]; omega⟩
 | one h h1 h2 k ih => intro ha; have h3 := itemS_ok h1; have := ih h3.2.1; exact ⟨this.le, fun h => by have := this.lt h; omega, this.ok⟩
 | bad2 h h1 h2 h3 => intro ha; have := itemS_bad h3 (by omega); exact ⟨by simp only [Rd.at_]; omega, fun h => by simp only [Rd.no] at h; omega, fun _ => by simp only [Rd.no]; omega⟩
 | less h h1 h2 h3 h4 => intro ha; exact ⟨by simp only [Rd.at_]; omega, fun h => by simp only [Rd.no] at h; omega, fun _ => by simp only [Rd.no]; omega⟩
 | two h h1 h2 h3 h4 k ih => intro ha; have h5 := itemS_ok h1; have h6 := itemS_ok h3; have := ih h6.2.1; exact ⟨this.le, fun h => by have := this.lt h; omega, this.ok⟩
theorem beginS_le (s : ByteArray) (op : Nat) (h : op < s.size) : op < beginS s op ∧ beginS s op ≤ s.size := by
 unfold beginS negS
 by_cases h1 : op + 1 < s.size ∧ byteAt s (op + 1) = 94
 ·rw [if_pos (by simpa using h1)]; omega
 ·rw [if_neg (by simpa using h1)]; omega
theorem finC_placed {s : ByteArray} {a op : Nat} {ng : Bool} {R : Rd (Cls × Nat)} (h : Placed s a R) (ha : op ≤ a) (hs : op ≤ s.size) : Placed s op (finC ng op R) := by
 cases R with
 | ok v b =>
  obtain ⟨x, n⟩ := v
  have h1 := h.le; have h2 := h.lt rfl
  simp only [Rd.at_] at h1 h2
  have e : finC ng op (.ok (x, n) b) = if n = 0 ∨ (if ng then ~~~ x else x) = 0 then .bad op 132 else .ok (if ng then ~~~ x else x) b := rfl
  rw [e]
  by_cases hc : n = 0 ∨ (if ng then ~~~ x else x) = 0
  ·rw [if_pos hc]; exact ⟨by simp only [Rd.at_]; omega, fun h => by simp only [Rd.no] at h; omega, fun _ => by simp only [Rd.no]; omega⟩
  ·rw [if_neg hc]; exact ⟨by simp only [Rd.at_]; omega, fun _ => by simp only [Rd.at_]; omega, fun h => absurd rfl (h _ _)⟩
 | bad p e => exact ⟨h.le, fun h2 => by have := h.lt h2; simp only [Rd.at_, finC] at this ⊢; omega, h.ok ∘ fun _ v nx h => by cases h⟩
theorem Rd.map_placed {α β : Type} {f : α → β} {s : ByteArray} {a : Nat} {R : Rd α} (h : Placed s a R) : Placed s a (R.map f) := by
 cases R with
 | ok v b => exact ⟨h.le, h.lt, fun h => absurd rfl (h _ _)⟩
 | bad p e => exact ⟨h.le, h.lt, fun _ => h.ok (fun v nx h => by cases h)⟩
theorem ElemRd.placed {s : ByteArray} {a : Nat} {R : Rd Cls} (h : ElemRd s a R) (ha : a < s.size) : Placed s a R := by
 cases h with
 | full h => exact ⟨by simp only [Rd.at_]; omega, fun _ => by simp only [Rd.at_]; omega, fun h => absurd rfl (h _ _)⟩
 | cls h k => have hb := beginS_le s a ha; exact finC_placed (k.placed hb.2) (by omega) (by omega)
 | byte h h' => exact Rd.map_placed (oneS_placed _ _ s a ha (by decide))
theorem PatRun.placed {s : ByteArray} {a : Nat} {xs : List Cls} {R : Rd (List Cls)} (h : PatRun s a xs R) : a ≤ s.size → Placed s a R := by
 induction h with
 | stop h => intro _; exact ⟨by simp only [Rd.at_]; omega, fun h => by simp only [Rd.no] at h; omega, fun _ => by simp only [Rd.no]; omega⟩
 | close h hb h1 => intro _; exact ⟨by simp only [Rd.at_]; omega, fun _ => by simp only [Rd.at_]; omega, fun h => absurd rfl (h _ _)⟩
 | empty h hb h1 => intro _; exact ⟨by simp only [Rd.at_]; omega, fun h => by simp only [Rd.no] at h; omega, fun _ => by simp only [Rd.no]; omega⟩
 | long h hb h1 => intro _; exact ⟨by simp only [Rd.at_]; omega, fun h => by simp only [Rd.no] at h; omega, fun _ => by simp only [Rd.no]; omega⟩
 | bad h hb h1 k => intro _; have := k.placed h; exact ⟨this.le, this.lt, fun _ => this.ok (fun v nx h => by cases h)⟩
 | step h hb h1 k r ih => intro _; have h2 := k.placed h; have h3 := h2.lt rfl; simp only [Rd.at_] at h3; have h4 := h2.le; simp only [Rd.at_] at h4; have := ih h4; exact ⟨this.le, fun h => by have := this.lt h; omega, this.ok⟩
theorem PatRun.len {s : ByteArray} {a : Nat} {xs : List Cls} {R : Rd (List Cls)} (h : PatRun s a xs R) : xs.length ≤ 64 → ∀ ys b, R = .ok ys b → ys.length ≤ 64 ∧ 0 < ys.length := by
 induction h with
 | stop h => intro _ ys b e; cases e
 | close h hb h1 => intro hl ys b e; injection e with e1 e2; subst e1; exact ⟨hl, h1⟩
 | empty h hb h1 => intro _ ys b e; cases e
 | long h hb h1 => intro _ ys b e; cases e
 | bad h hb h1 k => intro _ ys b e; cases e
 | step h hb h1 k r ih => intro hl; exact ih (by rw [List.length_append]; simp; omega)
end Go.Proofs.YtoelilejohfglaaGreat
namespace Go.Proofs.YtoelilejohfglaaGreat
open Go.RowKit
set_option linter.unusedVariables false
set_option linter.unusedSimpArgs false
attribute [local go_sem ↓] Go.wp_at_zero Go.wp_at_succ
structure FourAt (w : World) (b : Nat) (v0 v1 v2 v3 : Value) : Prop where
 r0 : w.cell? ⟨b, 0, none⟩ = some v0
 r1 : w.cell? ⟨b, 1, none⟩ = some v1
 r2 : w.cell? ⟨b, 2, none⟩ = some v2
 r3 : w.cell? ⟨b, 3, none⟩ = some v3
 f0 : w.frozen? ⟨b, 0, none⟩ = false
 f1 : w.frozen? ⟨b, 1, none⟩ = false
 f2 : w.frozen? ⟨b, 2, none⟩ = false
 f3 : w.frozen? ⟨b, 3, none⟩ = false
 lt : b < w.heap.size
theorem Blk.four {w : World} {b : Nat} {v0 v1 v2 v3 : Value} {T : TypeId} (h : Blk w b #[v0, v1, v2, v3] T) : FourAt w b v0 v1 v2 v3 :=
 ⟨h.cell 0 rfl, h.cell 1 rfl, h.cell 2 rfl, h.cell 3 rfl, h.free 0, h.free 1, h.free 2, h.free 3, h.lt⟩
end Go.Proofs.YtoelilejohfglaaGreat
namespace Go.Proofs.YtoelilejohfglaaGreat
open Go.RowKit
set_option linter.unusedVariables false
set_option linter.unusedSimpArgs false
attribute [local go_sem ↓] Go.wp_at_zero Go.wp_at_succ
structure TP where
 t : Tok
 A : Option Addr
 l : Nat
 c : Nat
def tpL (p : TP) : List Value := [.int .i64 p.t.kind, .int .i64 p.t.at_, .int .i64 p.t.n, .slice p.A p.l p.c]
structure PRead (F : Nat → Prop) (w : World) (p : TP) : Prop where
 row : RowAt 4 F w p.A p.l p.c (p.t.p.flatMap clsL)
 len : p.t.p.length = p.l
structure TRow (w : World) (base : Nat) (T : TypeId) (A : Option Addr) (n c : Nat) (ps : List TP) : Prop where
 len : ps.length = n
 own : w.ownsRow base T 4 (.slice A n c) n (ps.flatMap tpL)
 els : ∀ p ∈ ps, PRead (fun k => base ≤ k ∧ ¬ Of A k) w p
theorem TRow.nil (w : World) (base : Nat) (T : TypeId) : TRow w base T none 0 0 [] := ⟨rfl, World.ownsRow_nil _ _ _ _, fun p h => by simp at h⟩
theorem TRow.chg {S : Nat → Prop} {w w' : World} {base : Nat} {T : TypeId} {A : Option Addr} {n c : Nat} {ps : List TP} (h : TRow w base T A n c ps) (hc : Chg S w w') (hS : ∀ k, base ≤ k → k < w.heap.size → ¬ S k) : TRow w' base T A n c ps :=
 ⟨h.len, own_chg h.own hc (fun k hk => by have := own_of h.own k hk; exact hS k this.1 this.2), fun p hp => ⟨(h.els p hp).row.chg hc (fun k hk hF => hS k hF.1 hk), (h.els p hp).len⟩⟩
theorem numS_placed (s : ByteArray) (a m : Nat) (ha : a ≤ s.size) (h : DigRun s a m) : Placed s a (numS s a m) ∨ (∃ v, numS s a m = .ok v (a + m) ∧ 0 < m ∧ a + m ≤ s.size) := by
 unfold numS
 by_cases hc : m = 0 ∨ (byteAt s a = 48 ∧ 1 < m) ∨ 1000000 < valD s a m
 ·left; rw [if_pos hc]; exact ⟨by simp only [Rd.at_]; omega, fun h => by simp only [Rd.no] at h; omega, fun _ => by simp only [Rd.no]; omega⟩
 ·right; rw [if_neg hc]
  have hm : 0 < m := by omega
  have := h.yes (m - 1) (by omega)
  unfold isDig at this
  exact ⟨_, rfl, hm, by omega⟩
theorem TokRd.placed {s : ByteArray} {a : Nat} {R : Rd Tok} (h : TokRd s a R) (ha : a < s.size) : Placed s a R := by
 cases h with
 | pat h k => have := k.placed (show a + 1 ≤ s.size by omega); exact Rd.map_placed ⟨this.le, fun h => by have := this.lt h; omega, this.ok⟩
 | none h h1 => exact ⟨by simp only [Rd.at_]; omega, fun h => by simp only [Rd.no] at h; omega, fun _ => by simp only [Rd.no]; omega⟩
 | sign h h1 h2 h3 => exact ⟨by simp only [Rd.at_]; omega, fun _ => by simp only [Rd.at_]; omega, fun h => absurd rfl (h _ _)⟩
 | num h h1 h2 h3 =>
  rcases numS_placed s (a + 1) _ (by omega) h3 with h4 | ⟨v, h4, h5, h6⟩
  ·exact Rd.map_placed ⟨h4.le, fun h => by have := h4.lt h; omega, h4.ok⟩
  ·rw [h4]; exact ⟨h6, fun _ => by simp only [Rd.at_, Rd.map]; omega, fun h => absurd rfl (h _ _)⟩
theorem LexRun.placed {s : ByteArray} {a : Nat} {l : List Tok} {R : Rd (List Tok)} (h : LexRun s a l R) : R.at_ ≤ s.size ∧ ((∀ v nx, R ≠ .ok v nx) → R.no ≠ 0) ∧ ((∃ v nx, R = .ok v nx) → R.at_ = s.size) := by
 induction h with
 | stop h => exact ⟨Nat.le_refl _, fun h => absurd rfl (h _ _), fun _ => rfl⟩
 | blank h hb k ih => exact ih
 | bad h hb k => have := k.placed h; exact ⟨this.le, fun _ => this.ok (fun v nx h => by cases h), fun ⟨v, nx, h⟩ => by cases h⟩
 | step h hb k r ih => exact ih
end Go.Proofs.YtoelilejohfglaaGreat
