/- Joined texts: ReadC QryP QryQ QryR QryS TRd QryT LibE. -/
import Derived.Test.YtllblpiakijpaaaBunG
import Derived.Test.YtllblpiakijpaaaBunE
import Derived.Test.YtllblpiakijpaaaBunA
import Derived.Deep.RegionHeld3
/- Layer 13: texts made of blanks and printed tokens are read. Plain words. -/
namespace Go.Proofs.Ytllblpiakijpaaa
open Go.RowKit
set_option linter.unusedVariables false
def blankS : ByteArray := ⟨#[32]⟩
/-- Blanks and tokens, one behind the other. -/
inductive TextRun : ByteArray → List Tok → Prop
  | nil : TextRun ByteArray.empty []
  | blank {s : ByteArray} {l : List Tok} (h : TextRun s l) : TextRun (s ++ blankS) l
  | tok {s : ByteArray} {l : List Tok} {kd n : Int} {xs : List Cls} {u : ByteArray} (h : TextRun s l) (hp : printS kd n xs = some u) : TextRun (s ++ u) (l ++ [⟨kd.toNat, s.size, n.toNat, xs⟩])
theorem TextRun.read {s : ByteArray} {l : List Tok} (h : TextRun s l) : ∀ {T : ByteArray}, At T 0 s → ¬ isDig T s.size → ∀ R, LexRun T s.size l R → LexRun T 0 [] R := by
  induction h with
  | nil => intro T _ _ R hR; exact hR
  | @blank s l h ih =>
    intro T hA hd R hR
    have h2 := hA.right
    have e0 := h2.eq 0 (by decide)
    have l0 := h2.lt 0 (by decide)
    rw [Nat.zero_add] at e0 l0
    replace e0 : byteAt T s.size = 32 := e0
    replace l0 : s.size < T.size := l0
    have z : blankS.size = 1 := rfl
    rw [ByteArray.size_append, z] at hR
    exact ih hA.left (by unfold isDig; omega) R (.blank l0 e0 hR)
  | @tok s l kd n xs u h hp ih =>
    intro T hA hd R hR
    have h2 := hA.right
    rw [Nat.zero_add] at h2
    rw [ByteArray.size_append] at hd hR
    have hr := tok_read hp h2 hd
    have hlt := h2.lt 0 hr.2.1
    exact ih hA.left hr.2.2.2.2.2.2.2 R (.step (by omega) hr.2.2.1 hr.1 hR)
theorem TextRun.lex {s : ByteArray} {l : List Tok} (h : TextRun s l) (hs : s.size ≤ 1000) : lexS s (.ok l s.size) := by
  unfold lexS
  rw [if_neg (by omega)]
  exact h.read (At.self s) (by unfold isDig; omega) _ (.stop (Nat.le_refl _))
/-! Every token that is read can be printed. -/
theorem finC_ne {ng : Bool} {op : Nat} {R : Rd (Cls × Nat)} {x : Cls} {b : Nat} (h : finC ng op R = .ok x b) : x ≠ 0 := by
  cases R with
  | bad p e => cases h
  | ok v c =>
    obtain ⟨y, n⟩ := v
    have e : finC ng op (.ok (y, n) c) = if n = 0 ∨ (if ng then ~~~ y else y) = 0 then .bad op 132 else .ok (if ng then ~~~ y else y) c := rfl
    rw [e] at h
    by_cases hc : n = 0 ∨ (if ng then ~~~ y else y) = 0
    · rw [if_pos hc] at h; cases h
    · rw [if_neg hc] at h; injection h with h1 h2; rw [← h1]; exact fun e => hc (.inr e)
theorem full_ne : fullC ≠ 0 := by decide
theorem two_ne (b : Nat) (h : b < 256) : BitVec.twoPow 256 b ≠ (0 : Cls) := by
  intro e
  have : (BitVec.twoPow 256 b).getLsbD b = (0 : Cls).getLsbD b := by rw [e]
  simp [h] at this
theorem ElemRd.ne {s : ByteArray} {a : Nat} {R : Rd Cls} (h : ElemRd s a R) (ha : a < s.size) {x : Cls} {b : Nat} (hR : R = .ok x b) : x ≠ 0 := by
  cases h with
  | full h1 => injection hR with e1 e2; rw [← e1]; exact full_ne
  | cls h1 k => exact finC_ne hR
  | byte h1 h2 => obtain ⟨v, hv, rfl⟩ := Rd.map_ok hR; exact two_ne v (oneS_ok hv ha).2.2
theorem PatRun.ne {s : ByteArray} {a : Nat} {xs : List Cls} {R : Rd (List Cls)} (h : PatRun s a xs R) : (∀ x ∈ xs, x ≠ 0) → ∀ ys b, R = .ok ys b → ∀ y ∈ ys, y ≠ 0 := by
  induction h with
  | stop h => intro _ ys b e; cases e
  | close h hb h1 => intro hx ys b e; injection e with e1 e2; subst e1; exact hx
  | empty h hb h1 => intro _ ys b e; cases e
  | long h hb h1 => intro _ ys b e; cases e
  | bad h hb h1 k => intro _ ys b e; cases e
  | step h hb h1 k r ih =>
    intro hx
    refine ih fun y hy => ?_
    rw [List.mem_append, List.mem_singleton] at hy
    rcases hy with hy | rfl
    · exact hx y hy
    · exact k.ne h rfl
/-- A token that can be printed. -/
def printable (t : Tok) : Prop := ∃ u, printS t.kind t.n t.p = some u
theorem printable_pat {a : Nat} {xs : List Cls} (h1 : 0 < xs.length) (h2 : xs.length ≤ 64) (h3 : ∀ x ∈ xs, x ≠ 0) : printable ⟨8, a, 0, xs⟩ := by
  have hr : rightB xs 0 = true := by
    unfold rightB; rw [decide_eq_true_eq]; exact ⟨h1, h2, fun h => h3 0 h rfl, by omega, by omega⟩
  have e : printS 8 0 xs = some (elemsT xs ++ ⟨#[34]⟩) := by rw [printS_in (by omega), if_pos rfl, if_pos ⟨rfl, hr⟩]
  exact ⟨_, e⟩
theorem kindV_le' : ∀ b : Fin 256, kindV b.val ≤ 7 := by decide +kernel
theorem TokRd.printable {s : ByteArray} {a : Nat} {R : Rd Tok} (h : TokRd s a R) (ha : a < s.size) {t : Tok} {b : Nat} (hR : R = .ok t b) : Go.Proofs.Ytllblpiakijpaaa.printable t := by
  cases h with
  | @pat R0 h1 k =>
    obtain ⟨xs, hx, rfl⟩ := Rd.map_ok hR
    have h2 := k.len (by simp) xs b hx
    exact printable_pat h2.2 h2.1 (k.ne (by simp) xs b hx)
  | none h1 h2 => cases hR
  | @sign k h1 h2 h3 h4 =>
    injection hR with e1 e2; subst e1
    have e : printS (k : Int) 0 [] = some (sgnS k) := by rw [printS_in (by omega), if_neg (by omega), if_neg (by simp), if_neg (by omega), if_pos rfl]
    exact ⟨_, e⟩
  | @num k m h1 h2 h3 h4 =>
    obtain ⟨v, hv, rfl⟩ := Rd.map_ok hR
    have hk := kindV_le' ⟨byteAt s a, byteAt_lt s a⟩
    simp only at hk
    have hv' : v ≤ 1000000 := by
      unfold numS at hv
      split at hv
      · cases hv
      · injection hv with e1 e2; omega
    have e : printS (k : Int) (v : Int) [] = some (sgnS k ++ decS (v : Int).toNat) := by rw [printS_in (by omega), if_neg (by omega), if_neg (by simp), if_pos (by omega)]
    exact ⟨_, e⟩
theorem LexRun.printable {s : ByteArray} {a : Nat} {l : List Tok} {R : Rd (List Tok)} (h : LexRun s a l R) : (∀ t ∈ l, Go.Proofs.Ytllblpiakijpaaa.printable t) → ∀ l' b, R = .ok l' b → ∀ t ∈ l', Go.Proofs.Ytllblpiakijpaaa.printable t := by
  induction h with
  | stop h => intro hl l' b e; injection e with e1 e2; subst e1; exact hl
  | blank h hb k ih => exact ih
  | bad h hb k => intro hl l' b e; cases e
  | step h hb k r ih =>
    intro hl
    refine ih fun t ht => ?_
    rw [List.mem_append, List.mem_singleton] at ht
    rcases ht with ht | rfl
    · exact hl t ht
    · exact k.printable h rfl
theorem lexS_printable {s : ByteArray} {l : List Tok} {b : Nat} (h : lexS s (.ok l b)) : ∀ t ∈ l, printable t := by
  unfold lexS at h
  by_cases hb : 1000 < s.size
  · rw [if_pos hb] at h; cases h
  · rw [if_neg hb] at h; exact h.printable (by simp) l b rfl
end Go.Proofs.Ytllblpiakijpaaa

/- Layer 14: pure words: nodes, trees, what a row of tokens is read as. No program. -/
namespace Go.Proofs.Ytllblpiakijpaaa
open Go.RowKit
set_option linter.unusedVariables false
/-- A node. -/
structure Nd where
  kind : Int
  n : Int
  p : List Cls
  K : Int
def arS (k : Int) : Int := if k = 1 then 0 else if k = 4 ∨ k = 5 then 1 else if k = 2 ∨ k = 3 then 2 else -1
/-- A tree of nodes. -/
inductive GT where
  | leaf (x : Nd)
  | one (x : Nd) (a : GT)
  | two (x : Nd) (a b : GT)
def GT.ok : GT → Prop
  | .leaf x => x.kind = 1
  | .one x a => (x.kind = 4 ∨ x.kind = 5) ∧ a.ok
  | .two x a b => (x.kind = 2 ∨ x.kind = 3) ∧ a.ok ∧ b.ok
def GT.flat : GT → List Nd
  | .leaf x => [x]
  | .one x a => x :: a.flat
  | .two x a b => x :: (a.flat ++ b.flat)
def GT.deep : GT → Nat
  | .leaf _ => 1
  | .one _ a => a.deep + 1
  | .two _ a b => max a.deep b.deep + 1
def GT.root : GT → Nd
  | .leaf x => x
  | .one x _ => x
  | .two x _ _ => x
theorem GT.flat_pos (t : GT) : 0 < t.flat.length := by cases t <;> simp [GT.flat]
theorem GT.deep_pos (t : GT) : 0 < t.deep := by cases t <;> simp [GT.deep]
theorem GT.flat_head (t : GT) : ∃ r, t.flat = t.root :: r := by cases t <;> exact ⟨_, rfl⟩
/-- How many nodes the trees have that begin a row; 0: it has not so many. -/
def sizeGo : List Nd → Int → Nat → Nat
  | [], _, _ => 0
  | x :: xs, op, k => if arS x.kind < 0 then 0 else if op + (arS x.kind - 1) = 0 then k + 1 else sizeGo xs (op + (arS x.kind - 1)) (k + 1)
def sizeN (l : List Nd) : Nat := sizeGo l 1 0
theorem arS_0 {k : Int} (h : k = 1) : arS k = 0 := by unfold arS; rw [if_pos h]
theorem arS_1 {k : Int} (h : k = 4 ∨ k = 5) : arS k = 1 := by unfold arS; rw [if_neg (by omega), if_pos h]
theorem arS_2 {k : Int} (h : k = 2 ∨ k = 3) : arS k = 2 := by unfold arS; rw [if_neg (by omega), if_neg (by omega), if_pos h]
theorem arS_cases (k : Int) : (k = 1 ∧ arS k = 0) ∨ ((k = 4 ∨ k = 5) ∧ arS k = 1) ∨ ((k = 2 ∨ k = 3) ∧ arS k = 2) ∨ arS k = -1 := by
  unfold arS
  by_cases h1 : k = 1
  · rw [if_pos h1]; exact .inl ⟨h1, rfl⟩
  · rw [if_neg h1]
    by_cases h2 : k = 4 ∨ k = 5
    · rw [if_pos h2]; exact .inr (.inl ⟨h2, rfl⟩)
    · rw [if_neg h2]
      by_cases h3 : k = 2 ∨ k = 3
      · rw [if_pos h3]; exact .inr (.inr (.inl ⟨h3, rfl⟩))
      · rw [if_neg h3]; exact .inr (.inr (.inr rfl))
/-- Going on behind a tree. -/
theorem sizeGo_tree (t : GT) : ∀ (rest : List Nd) (op : Int) (k : Nat), t.ok → 1 ≤ op → sizeGo (t.flat ++ rest) op k = if op = 1 then k + t.flat.length else sizeGo rest (op - 1) (k + t.flat.length) := by
  induction t with
  | leaf x =>
    intro rest op k h hop
    have e := arS_0 h
    simp only [GT.flat, List.cons_append, List.nil_append, sizeGo, e, List.length_singleton]
    rw [if_neg (by omega)]
    by_cases h1 : op = 1
    · rw [if_pos (by omega), if_pos h1]
    · rw [if_neg (by omega), if_neg h1, show op + (0 - 1) = op - 1 from by omega]
  | one x a ih =>
    intro rest op k h hop
    have e := arS_1 h.1
    simp only [GT.flat, List.cons_append, sizeGo, e, List.length_cons]
    rw [if_neg (by omega), if_neg (by omega), show op + (1 - 1) = op from by omega, ih rest op (k + 1) h.2 hop]
    rw [show k + 1 + a.flat.length = k + (a.flat.length + 1) from by omega]
  | two x a b iha ihb =>
    intro rest op k h hop
    have e := arS_2 h.1
    simp only [GT.flat, List.cons_append, sizeGo, e, List.length_cons, List.length_append, List.append_assoc]
    rw [if_neg (by omega), if_neg (by omega), iha _ _ _ h.2.1 (by omega), if_neg (by omega), show op + (2 - 1) - 1 = op from by omega, ihb _ _ _ h.2.2 hop]
    rw [show k + 1 + a.flat.length + b.flat.length = k + (a.flat.length + b.flat.length + 1) from by omega]
theorem sizeN_tree (t : GT) (rest : List Nd) (h : t.ok) : sizeN (t.flat ++ rest) = t.flat.length := by
  unfold sizeN; rw [sizeGo_tree t rest 1 0 h (by omega), if_pos rfl]; omega
/-- Trees are made from a row. -/
theorem trees_of (m : Nat) : ∀ (l : List Nd) (op : Nat) (k : Nat), l.length ≤ m → 1 ≤ op → sizeGo l op k ≠ 0 → ∃ ts : List GT, ts.length = op ∧ (∀ t ∈ ts, t.ok) ∧ ∃ rest, l = ts.flatMap GT.flat ++ rest ∧ sizeGo l op k = k + (ts.flatMap GT.flat).length := by
  induction m with
  | zero =>
    intro l op k hl hop h
    obtain rfl : l = [] := List.eq_nil_of_length_eq_zero (by omega)
    exact absurd rfl h
  | succ m ih =>
    intro l op k hl hop h
    cases l with
    | nil => exact absurd rfl h
    | cons x xs =>
      simp only [List.length_cons] at hl
      simp only [sizeGo] at h ⊢
      rcases arS_cases x.kind with ⟨hk, e⟩ | ⟨hk, e⟩ | ⟨hk, e⟩ | e
      · rw [e] at h ⊢
        rw [if_neg (by omega)] at h ⊢
        by_cases h1 : op = 1
        · subst h1
          rw [if_pos (by omega)] at h ⊢
          exact ⟨[.leaf x], rfl, by simpa [GT.ok] using hk, xs, by simp [GT.flat], by simp [GT.flat]⟩
        · rw [if_neg (by omega)] at h ⊢
          rw [show (op : Int) + (0 - 1) = ((op - 1 : Nat) : Int) from by omega] at h ⊢
          obtain ⟨ts, h2, h3, rest, h4, h5⟩ := ih xs (op - 1) (k + 1) (by omega) (by omega) h
          refine ⟨.leaf x :: ts, by simp; omega, ?_, rest, by rw [h4]; simp [GT.flat], by rw [h5]; simp [GT.flat]; omega⟩
          intro t ht
          rw [List.mem_cons] at ht
          rcases ht with rfl | ht
          · exact hk
          · exact h3 t ht
      · rw [e] at h ⊢
        rw [if_neg (by omega), if_neg (by omega), show (op : Int) + (1 - 1) = (op : Int) from by omega] at h ⊢
        obtain ⟨ts, h2, h3, rest, h4, h5⟩ := ih xs op (k + 1) (by omega) hop h
        match ts, h2, h3, h4, h5 with
        | t :: ts, h2, h3, h4, h5 =>
          refine ⟨.one x t :: ts, by simpa using h2, ?_, rest, by rw [h4]; simp [GT.flat], by rw [h5]; simp [GT.flat]; omega⟩
          intro q hq
          rw [List.mem_cons] at hq
          rcases hq with rfl | hq
          · exact ⟨hk, h3 t (by simp)⟩
          · exact h3 q (by simp [hq])
        | [], h2, _, _, _ => simp at h2; omega
      · rw [e] at h ⊢
        rw [if_neg (by omega), if_neg (by omega), show (op : Int) + (2 - 1) = ((op + 1 : Nat) : Int) from by omega] at h ⊢
        obtain ⟨ts, h2, h3, rest, h4, h5⟩ := ih xs (op + 1) (k + 1) (by omega) (by omega) h
        match ts, h2, h3, h4, h5 with
        | t :: u :: ts, h2, h3, h4, h5 =>
          refine ⟨.two x t u :: ts, by simpa using h2, ?_, rest, by rw [h4]; simp [GT.flat], by rw [h5]; simp [GT.flat]; omega⟩
          intro q hq
          rw [List.mem_cons] at hq
          rcases hq with rfl | hq
          · exact ⟨hk, h3 t (by simp), h3 u (by simp)⟩
          · exact h3 q (by simp [hq])
        | [t], h2, _, _, _ => simp at h2; omega
        | [], h2, _, _, _ => simp at h2
      · rw [e] at h; exact absurd (if_pos (by omega)) h
/-- A row that begins with a tree. -/
theorem sizeN_of {l : List Nd} (h : sizeN l ≠ 0) : ∃ t : GT, t.ok ∧ ∃ rest, l = t.flat ++ rest ∧ sizeN l = t.flat.length := by
  obtain ⟨ts, h1, h2, rest, h3, h4⟩ := trees_of l.length l 1 0 (Nat.le_refl _) (by omega) h
  match ts, h1 with
  | [t], _ => exact ⟨t, h2 t (by simp), rest, by simpa using h3, by unfold sizeN; simpa using h4⟩
theorem GT.inj {t u : GT} {r q : List Nd} (ht : t.ok) (hu : u.ok) (h : t.flat ++ r = u.flat ++ q) : t.flat = u.flat ∧ r = q := by
  have h1 := sizeN_tree t r ht
  rw [h, sizeN_tree u q hu] at h1
  exact List.append_inj h h1.symm
/-- A tree is known by its row. -/
theorem GT.flat_inj : ∀ {t u : GT}, t.ok → u.ok → t.flat = u.flat → t = u := by
  intro t
  induction t with
  | leaf x =>
    intro u ht hu h
    cases u with
    | leaf y => simp only [GT.flat, List.cons.injEq, and_true] at h; rw [h]
    | one y b => simp only [GT.flat, List.cons.injEq] at h; have := b.flat_pos; rw [← h.2] at this; simp at this
    | two y b c => simp only [GT.flat, List.cons.injEq] at h; have := b.flat_pos; have h2 := congrArg List.length h.2; simp only [List.length_append, List.length_nil] at h2; omega
  | one x a ih =>
    intro u ht hu h
    cases u with
    | leaf y => simp only [GT.flat, List.cons.injEq] at h; have := a.flat_pos; rw [h.2] at this; simp at this
    | one y b =>
      simp only [GT.flat, List.cons.injEq] at h
      rw [h.1, ih ht.2 hu.2 h.2]
    | two y b c =>
      simp only [GT.flat, List.cons.injEq] at h
      have h1 := ht.1; have h2 := hu.1; rw [h.1] at h1; omega
  | two x a b iha ihb =>
    intro u ht hu h
    cases u with
    | leaf y => simp only [GT.flat, List.cons.injEq] at h; have := a.flat_pos; have h2 := congrArg List.length h.2; simp only [List.length_append, List.length_nil] at h2; omega
    | one y c =>
      simp only [GT.flat, List.cons.injEq] at h
      have h1 := ht.1; have h2 := hu.1; rw [h.1] at h1; omega
    | two y c d =>
      simp only [GT.flat, List.cons.injEq] at h
      have h3 := GT.inj ht.2.1 hu.2.1 h.2
      rw [h.1, iha ht.2.1 hu.2.1 h3.1, ihb ht.2.2 hu.2.2 h3.2]
end Go.Proofs.Ytllblpiakijpaaa

/- Layer 14: pure words: what a row of tokens is parsed as. No program. -/
namespace Go.Proofs.Ytllblpiakijpaaa
open Go.RowKit
set_option linter.unusedVariables false
/-- What was parsed: nodes, and the tokens behind them; or the tokens from the one on that is amiss. -/
inductive PR where
  | ok (L : List Nd) (q : List Tok)
  | bad (q : List Tok)
def headNot (k : Nat) (ts : List Tok) : Prop := ∀ t r, ts = t :: r → t.kind ≠ k
inductive LoopRd (one : List Tok → PR → Prop) (sign : Nat) (kind : Int) : List Nd → List Tok → PR → Prop
  | stop {out : List Nd} {ts : List Tok} (h : headNot sign ts) : LoopRd one sign kind out ts (.ok out ts)
  | bad {out : List Nd} {t : Tok} {r q : List Tok} (h : t.kind = sign) (k : one r (.bad q)) : LoopRd one sign kind out (t :: r) (.bad q)
  | step {out L : List Nd} {t : Tok} {r q : List Tok} {R : PR} (h : t.kind = sign) (k : one r (.ok L q)) (g : LoopRd one sign kind (⟨kind, 0, [], 0⟩ :: (out ++ L)) q R) : LoopRd one sign kind out (t :: r) R
inductive ChainRd (one : List Tok → PR → Prop) (sign : Nat) (kind : Int) (ts : List Tok) : PR → Prop
  | bad {q : List Tok} (k : one ts (.bad q)) : ChainRd one sign kind ts (.bad q)
  | go {L : List Nd} {q : List Tok} {R : PR} (k : one ts (.ok L q)) (g : LoopRd one sign kind L q R) : ChainRd one sign kind ts R
inductive ItemStep (I Q : List Tok → PR → Prop) : List Tok → PR → Prop
  | notOk {t : Tok} {r q : List Tok} {L : List Nd} (h : t.kind = 5) (k : I r (.ok L q)) : ItemStep I Q (t :: r) (.ok (⟨4, 0, [], 0⟩ :: L) q)
  | notBad {t : Tok} {r q : List Tok} (h : t.kind = 5) (k : I r (.bad q)) : ItemStep I Q (t :: r) (.bad q)
  | shiftOk {t : Tok} {r q : List Tok} {L : List Nd} (h : t.kind = 6) (k : I r (.ok L q)) : ItemStep I Q (t :: r) (.ok (⟨5, t.n, [], 0⟩ :: L) q)
  | shiftBad {t : Tok} {r q : List Tok} (h : t.kind = 6) (k : I r (.bad q)) : ItemStep I Q (t :: r) (.bad q)
  | fuzzBad {t u : Tok} {r : List Tok} (h : t.kind = 8) (hu : u.kind = 7) (hn : 64 < u.n) : ItemStep I Q (t :: u :: r) (.bad (u :: r))
  | fuzz {t u : Tok} {r : List Tok} (h : t.kind = 8) (hu : u.kind = 7) (hn : u.n ≤ 64) : ItemStep I Q (t :: u :: r) (.ok [⟨1, 0, t.p, u.n⟩] r)
  | pat {t : Tok} {r : List Tok} (h : t.kind = 8) (hr : headNot 7 r) : ItemStep I Q (t :: r) (.ok [⟨1, 0, t.p, 0⟩] r)
  | openOk {t u : Tok} {r q : List Tok} {L : List Nd} (h : t.kind = 1) (k : Q r (.ok L (u :: q))) (hu : u.kind = 2) : ItemStep I Q (t :: r) (.ok L q)
  | openBad {t : Tok} {r q : List Tok} (h : t.kind = 1) (k : Q r (.bad q)) : ItemStep I Q (t :: r) (.bad q)
  | openMiss {t : Tok} {r q : List Tok} {L : List Nd} (h : t.kind = 1) (k : Q r (.ok L q)) (hq : headNot 2 q) : ItemStep I Q (t :: r) (.bad q)
  | other {ts : List Tok} (h5 : headNot 5 ts) (h6 : headNot 6 ts) (h8 : headNot 8 ts) (h1 : headNot 1 ts) : ItemStep I Q ts (.bad ts)
def itemR : Nat → List Tok → PR → Prop
  | 0 => fun _ _ => False
  | n + 1 => ItemStep (itemR n) (ChainRd (ChainRd (itemR n) 3 2) 4 3)
def partR (n : Nat) : List Tok → PR → Prop := ChainRd (itemR n) 3 2
def queryR (n : Nat) : List Tok → PR → Prop := ChainRd (partR n) 4 3
theorem itemR_succ (n : Nat) : itemR (n + 1) = ItemStep (itemR n) (queryR n) := rfl
/-! ### What is left is a piece at the end; trees; right nodes -/
def okTok (t : Tok) : Prop := printable t
def nodeB (x : Nd) : Prop := (x.kind = 5 ∨ x.n = 0) ∧ 0 ≤ x.n ∧ x.n ≤ 1000000 ∧ (if x.kind = 1 then rightB x.p x.K = true else (x.p = [] ∧ x.K = 0))
/-- Of an answer: what is left is a proper end of the tokens; the nodes are a tree of right nodes, of no more nodes than tokens. -/
structure Fine (ts : List Tok) (R : PR) : Prop where
  ok : ∀ L q, R = .ok L q → ∃ pre, ts = pre ++ q ∧ pre ≠ [] ∧ L.length ≤ pre.length ∧ ((∀ t ∈ ts, okTok t) → ∃ g : GT, g.ok ∧ L = g.flat ∧ ∀ x ∈ L, nodeB x)
  bad : ∀ q, R = .bad q → ∃ pre, ts = pre ++ q
theorem okTok_n {t : Tok} (h : okTok t) : t.n ≤ 1000000 ∧ 1 ≤ t.kind ∧ t.kind ≤ 8 := by
  obtain ⟨u, hu⟩ := h
  have := tok_read hu (At.self u) (by unfold isDig; omega)
  omega
theorem okTok_pat {t : Tok} (h : okTok t) (h8 : t.kind = 8) : rightB t.p 0 = true := by
  obtain ⟨u, hu⟩ := h
  rw [h8] at hu
  by_cases ho : ((8 : Nat) : Int) < 1 ∨ 8 < ((8 : Nat) : Int) ∨ (t.n : Int) < 0 ∨ 1000000 < (t.n : Int)
  · rw [printS_out ho] at hu; cases hu
  · rw [printS_in ho, if_pos (by omega)] at hu
    by_cases hc : (t.n : Int) = 0 ∧ rightB t.p 0 = true
    · exact hc.2
    · rw [if_neg hc] at hu; cases hu
theorem rightB_K {p : List Cls} (h : rightB p 0 = true) {K : Int} (h0 : 0 ≤ K) (h64 : K ≤ 64) : rightB p K = true := by
  unfold rightB at h ⊢
  have := of_decide_eq_true h
  exact decide_eq_true ⟨this.1, this.2.1, this.2.2.1, h0, h64⟩
theorem fine_loop {one : List Tok → PR → Prop} {sign : Nat} {kind : Int} (hk : kind = 2 ∨ kind = 3) (h1 : ∀ ts R, one ts R → Fine ts R) {out : List Nd} {ts : List Tok} {R : PR} (h : LoopRd one sign kind out ts R) :
    (∀ L q, R = .ok L q → ∃ pre, ts = pre ++ q ∧ L.length ≤ out.length + pre.length ∧ ((∀ t ∈ ts, okTok t) → (∃ g : GT, g.ok ∧ out = g.flat ∧ ∀ x ∈ out, nodeB x) → ∃ g : GT, g.ok ∧ L = g.flat ∧ ∀ x ∈ L, nodeB x)) ∧ (∀ q, R = .bad q → ∃ pre, ts = pre ++ q) := by
  induction h with
  | stop h => exact ⟨fun L q e => by injection e with e1 e2; subst e1 e2; exact ⟨[], rfl, by simp, fun _ h => h⟩, fun q e => by cases e⟩
  | @bad out t r q h k =>
    refine ⟨(fun L q e => by cases e), fun q' e => ?_⟩
    injection e with e; subst e
    obtain ⟨pre, hp⟩ := (h1 _ _ k).bad _ rfl
    exact ⟨t :: pre, by rw [hp]; rfl⟩
  | @step out L t r q R h k g ih =>
    obtain ⟨pre, hp, hne, hl, htree⟩ := (h1 _ _ k).ok _ _ rfl
    refine ⟨fun L' q' e => ?_, fun q' e => ?_⟩
    · obtain ⟨pre2, hp2, hl2, ht2⟩ := ih.1 L' q' e
      refine ⟨t :: pre ++ pre2, by rw [hp, hp2]; simp, by simp at hl2 ⊢; omega, fun hok ⟨g0, hg0, he0, hn0⟩ => ?_⟩
      obtain ⟨g1, hg1, he1, hn1⟩ := htree (fun u hu => hok u (by simp [hu]))
      refine ht2 (fun u hu => hok u (by rw [hp]; simp [hu])) ⟨.two ⟨kind, 0, [], 0⟩ g0 g1, ⟨hk, hg0, hg1⟩, by rw [he0, he1]; rfl, ?_⟩
      intro x hx
      rw [List.mem_cons, List.mem_append] at hx
      rcases hx with rfl | hx | hx
      · exact ⟨.inr rfl, by simp only; omega, by simp only; omega, by rw [if_neg (by simp only; omega)]; exact ⟨rfl, rfl⟩⟩
      · exact hn0 x hx
      · exact hn1 x hx
    · obtain ⟨pre2, hp2⟩ := ih.2 q' e
      exact ⟨t :: pre ++ pre2, by rw [hp, hp2]; simp⟩
theorem fine_chain {one : List Tok → PR → Prop} {sign : Nat} {kind : Int} (hk : kind = 2 ∨ kind = 3) (h1 : ∀ ts R, one ts R → Fine ts R) {ts : List Tok} {R : PR} (h : ChainRd one sign kind ts R) : Fine ts R := by
  cases h with
  | bad k => exact ⟨fun L q e => (by cases e), (h1 _ _ k).bad⟩
  | @go L q _ k g =>
    obtain ⟨pre, hp, hne, hl, htree⟩ := (h1 _ _ k).ok _ _ rfl
    have hg := fine_loop hk h1 g
    refine ⟨fun L' q' e => ?_, fun q' e => ?_⟩
    · obtain ⟨pre2, hp2, hl2, ht2⟩ := hg.1 L' q' e
      refine ⟨pre ++ pre2, by rw [hp, hp2]; simp, by simp [hne], by rw [List.length_append]; omega, fun hok => ?_⟩
      exact ht2 (fun u hu => hok u (by rw [hp]; simp [hu])) (htree hok)
    · obtain ⟨pre2, hp2⟩ := hg.2 q' e
      exact ⟨pre ++ pre2, by rw [hp, hp2]; simp⟩
theorem fine_item (n : Nat) : ∀ ts R, itemR n ts R → Fine ts R := by
  induction n with
  | zero => intro ts R h; exact h.elim
  | succ n ih =>
    have hq : ∀ ts R, queryR n ts R → Fine ts R := fun ts R h => fine_chain (.inr rfl) (fun ts R h => fine_chain (.inl rfl) ih h) h
    intro ts R h
    rw [itemR_succ] at h
    cases h with
    | @notOk t r q L h k =>
      refine ⟨fun L' q' e => ?_, fun q' e => by cases e⟩
      injection e with e1 e2; subst e1 e2
      obtain ⟨pre, hp, hne, hl, htree⟩ := (ih _ _ k).ok _ _ rfl
      refine ⟨t :: pre, by rw [hp]; rfl, by simp, by simp; omega, fun hok => ?_⟩
      obtain ⟨g, hg, he, hn⟩ := htree (fun u hu => hok u (by simp [hu]))
      refine ⟨.one ⟨4, 0, [], 0⟩ g, ⟨.inl rfl, hg⟩, by rw [he]; rfl, fun x hx => ?_⟩
      rw [List.mem_cons] at hx
      rcases hx with rfl | hx
      · exact ⟨.inr rfl, by simp only; omega, by simp only; omega, by rw [if_neg (by simp only; omega)]; exact ⟨rfl, rfl⟩⟩
      · exact hn x hx
    | @notBad t r q h k => exact ⟨fun L' q' e => (by cases e), fun q' e => by injection e with e; subst e; obtain ⟨pre, hp⟩ := (ih _ _ k).bad _ rfl; exact ⟨t :: pre, by rw [hp]; rfl⟩⟩
    | @shiftOk t r q L h k =>
      refine ⟨fun L' q' e => ?_, fun q' e => by cases e⟩
      injection e with e1 e2; subst e1 e2
      obtain ⟨pre, hp, hne, hl, htree⟩ := (ih _ _ k).ok _ _ rfl
      refine ⟨t :: pre, by rw [hp]; rfl, by simp, by simp; omega, fun hok => ?_⟩
      obtain ⟨g, hg, he, hn⟩ := htree (fun u hu => hok u (by simp [hu]))
      refine ⟨.one ⟨5, t.n, [], 0⟩ g, ⟨.inr rfl, hg⟩, by rw [he]; rfl, fun x hx => ?_⟩
      rw [List.mem_cons] at hx
      rcases hx with rfl | hx
      · have := okTok_n (hok t (by simp))
        exact ⟨.inl rfl, by simp only; omega, by simp only; omega, by rw [if_neg (by simp only; omega)]; exact ⟨rfl, rfl⟩⟩
      · exact hn x hx
    | @shiftBad t r q h k => exact ⟨fun L' q' e => (by cases e), fun q' e => by injection e with e; subst e; obtain ⟨pre, hp⟩ := (ih _ _ k).bad _ rfl; exact ⟨t :: pre, by rw [hp]; rfl⟩⟩
    | @fuzzBad t u r h hu hn => exact ⟨fun L' q' e => (by cases e), fun q' e => by injection e with e; subst e; exact ⟨[t], rfl⟩⟩
    | @fuzz t u r h hu hn =>
      refine ⟨fun L' q' e => ?_, fun q' e => by cases e⟩
      injection e with e1 e2; subst e1 e2
      refine ⟨[t, u], rfl, by simp, by simp, fun hok => ⟨.leaf ⟨1, 0, t.p, u.n⟩, rfl, rfl, fun x hx => ?_⟩⟩
      simp only [List.mem_singleton] at hx
      subst hx
      exact ⟨.inr rfl, by simp only; omega, by simp only; omega, by rw [if_pos rfl]; exact rightB_K (okTok_pat (hok t (by simp)) h) (by simp only; omega) (by simp only; omega)⟩
    | @pat t r h hr =>
      refine ⟨fun L' q' e => ?_, fun q' e => by cases e⟩
      injection e with e1 e2; subst e1 e2
      refine ⟨[t], rfl, by simp, by simp, fun hok => ⟨.leaf ⟨1, 0, t.p, 0⟩, rfl, rfl, fun x hx => ?_⟩⟩
      simp only [List.mem_singleton] at hx
      subst hx
      exact ⟨.inr rfl, by simp only; omega, by simp only; omega, by rw [if_pos rfl]; exact okTok_pat (hok t (by simp)) h⟩
    | @openOk t u r q L h k hu =>
      refine ⟨fun L' q' e => ?_, fun q' e => by cases e⟩
      injection e with e1 e2; subst e1 e2
      obtain ⟨pre, hp, hne, hl, htree⟩ := (hq _ _ k).ok _ _ rfl
      exact ⟨t :: pre ++ [u], by rw [hp]; simp, by simp, by simp; omega, fun hok => htree (fun u hu => hok u (by simp [hu]))⟩
    | @openBad t r q h k => exact ⟨fun L' q' e => (by cases e), fun q' e => by injection e with e; subst e; obtain ⟨pre, hp⟩ := (hq _ _ k).bad _ rfl; exact ⟨t :: pre, by rw [hp]; rfl⟩⟩
    | @openMiss t r q L h k hm => exact ⟨fun L' q' e => (by cases e), fun q' e => by injection e with e; subst e; obtain ⟨pre, hp, _⟩ := (hq _ _ k).ok _ _ rfl; exact ⟨t :: pre, by rw [hp]; rfl⟩⟩
    | other h5 h6 h8 h1 => exact ⟨fun L' q' e => (by cases e), fun q' e => by injection e with e; subst e; exact ⟨[], rfl⟩⟩
theorem fine_part (n : Nat) {ts : List Tok} {R : PR} (h : partR n ts R) : Fine ts R := fine_chain (.inl rfl) (fine_item n) h
theorem fine_query (n : Nat) {ts : List Tok} {R : PR} (h : queryR n ts R) : Fine ts R := fine_chain (.inr rfl) (fun _ _ h => fine_part n h) h
/-! ### Everything is parsed, or refused -/
theorem loop_total {one : List Tok → PR → Prop} {sign : Nat} {kind : Int} {N : Nat} (h1 : ∀ ts, ts.length < N → ∃ R, one ts R) (hf : ∀ ts R, one ts R → Fine ts R) : ∀ (m : Nat) (out : List Nd) (ts : List Tok), ts.length ≤ m → ts.length ≤ N → ∃ R, LoopRd one sign kind out ts R := by
  intro m
  induction m with
  | zero =>
    intro out ts hm _
    obtain rfl : ts = [] := List.eq_nil_of_length_eq_zero (by omega)
    exact ⟨_, .stop (fun t r e => by cases e)⟩
  | succ m ih =>
    intro out ts hm hN
    cases ts with
    | nil => exact ⟨_, .stop (fun t r e => by cases e)⟩
    | cons t r =>
      simp only [List.length_cons] at hm hN
      by_cases h : t.kind = sign
      · obtain ⟨R, hR⟩ := h1 r (by omega)
        cases R with
        | bad q => exact ⟨_, .bad h hR⟩
        | ok L q =>
          obtain ⟨pre, hp, hne, _⟩ := (hf _ _ hR).ok _ _ rfl
          have hl := congrArg List.length hp
          rw [List.length_append] at hl
          obtain ⟨R', hR'⟩ := ih (⟨kind, 0, [], 0⟩ :: (out ++ L)) q (by omega) (by omega)
          exact ⟨R', .step h hR hR'⟩
      · exact ⟨_, .stop (fun u q e => by injection e with e1 e2; subst e1; exact h)⟩
theorem chain_total {one : List Tok → PR → Prop} {sign : Nat} {kind : Int} {N : Nat} (h1 : ∀ ts, ts.length < N → ∃ R, one ts R) (hf : ∀ ts R, one ts R → Fine ts R) : ∀ ts, ts.length < N → ∃ R, ChainRd one sign kind ts R := by
  intro ts hN
  obtain ⟨R, hR⟩ := h1 ts hN
  cases R with
  | bad q => exact ⟨_, .bad hR⟩
  | ok L q =>
    obtain ⟨pre, hp, hne, _⟩ := (hf _ _ hR).ok _ _ rfl
    have hl := congrArg List.length hp
    rw [List.length_append] at hl
    obtain ⟨R', hR'⟩ := loop_total (sign := sign) (kind := kind) h1 hf q.length L q (Nat.le_refl _) (by omega)
    exact ⟨R', .go hR hR'⟩
theorem item_total (n : Nat) : ∀ ts, ts.length < n → ∃ R, itemR n ts R := by
  induction n with
  | zero => intro ts h; omega
  | succ n ih =>
    intro ts hl
    rw [itemR_succ]
    have hq : ∀ ts, ts.length < n → ∃ R, queryR n ts R := chain_total (chain_total ih (fine_item n)) (fun _ _ h => fine_part n h)
    cases ts with
    | nil => exact ⟨_, .other (fun t r e => by cases e) (fun t r e => by cases e) (fun t r e => by cases e) (fun t r e => by cases e)⟩
    | cons t r =>
      simp only [List.length_cons] at hl
      by_cases h5 : t.kind = 5
      · obtain ⟨R, hR⟩ := ih r (by omega)
        cases R with
        | bad q => exact ⟨_, .notBad h5 hR⟩
        | ok L q => exact ⟨_, .notOk h5 hR⟩
      by_cases h6 : t.kind = 6
      · obtain ⟨R, hR⟩ := ih r (by omega)
        cases R with
        | bad q => exact ⟨_, .shiftBad h6 hR⟩
        | ok L q => exact ⟨_, .shiftOk h6 hR⟩
      by_cases h8 : t.kind = 8
      · cases r with
        | nil => exact ⟨_, .pat h8 (fun t r e => by cases e)⟩
        | cons u r =>
          by_cases h7 : u.kind = 7
          · by_cases hn : 64 < u.n
            · exact ⟨_, .fuzzBad h8 h7 hn⟩
            · exact ⟨_, .fuzz h8 h7 (by omega)⟩
          · exact ⟨_, .pat h8 (fun t r e => by injection e with e1 e2; subst e1; exact h7)⟩
      by_cases h1 : t.kind = 1
      · obtain ⟨R, hR⟩ := hq r (by omega)
        cases R with
        | bad q => exact ⟨_, .openBad h1 hR⟩
        | ok L q =>
          cases q with
          | nil => exact ⟨_, .openMiss h1 hR (fun t r e => by cases e)⟩
          | cons u q =>
            by_cases h2 : u.kind = 2
            · exact ⟨_, .openOk h1 hR h2⟩
            · exact ⟨_, .openMiss h1 hR (fun t r e => by injection e with e1 e2; subst e1; exact h2)⟩
      exact ⟨_, .other (fun u q e => by injection e with e1 e2; subst e1; exact h5) (fun u q e => by injection e with e1 e2; subst e1; exact h6) (fun u q e => by injection e with e1 e2; subst e1; exact h8) (fun u q e => by injection e with e1 e2; subst e1; exact h1)⟩
theorem part_total (n : Nat) : ∀ ts, ts.length < n → ∃ R, partR n ts R := chain_total (item_total n) (fine_item n)
theorem query_total (n : Nat) : ∀ ts, ts.length < n → ∃ R, queryR n ts R := chain_total (part_total n) (fun _ _ h => fine_part n h)
end Go.Proofs.Ytllblpiakijpaaa

/- Layer 14: pure words: the text of a tree; it is parsed la that tree. No program. -/
namespace Go.Proofs.Ytllblpiakijpaaa
open Go.RowKit
set_option linter.unusedVariables false
def patT (p : List Cls) : ByteArray := (printS 8 0 p).getD ByteArray.empty
def br (b : Bool) (s : ByteArray) : ByteArray := if b then sgnS 1 ++ s ++ sgnS 2 else s
def isBin (x : Nd) : Bool := decide (x.kind = 2 ∨ x.kind = 3)
def isOr (x : Nd) : Bool := decide (x.kind = 3)
def leafT (x : Nd) : ByteArray := if 0 < x.K then patT x.p ++ (sgnS 7 ++ decS x.K.toNat) else patT x.p
def oneT (x : Nd) : ByteArray := if x.kind = 4 then sgnS 5 else sgnS 6 ++ decS x.n.toNat
def GT.text : GT → ByteArray
  | .leaf x => leafT x
  | .one x a => oneT x ++ br (isBin a.root) a.text
  | .two x a b => if x.kind = 2 then br (isOr a.root) a.text ++ blankS ++ sgnS 3 ++ blankS ++ br (isBin b.root) b.text
    else a.text ++ blankS ++ sgnS 4 ++ blankS ++ br (isOr b.root) b.text
/-- A token but for its place. -/
abbrev T3 := Nat × Nat × List Cls
def Tok.key (t : Tok) : T3 := (t.kind, t.n, t.p)
def br3 (b : Bool) (l : List T3) : List T3 := if b then (1, 0, []) :: (l ++ [(2, 0, [])]) else l
def GT.toks : GT → List T3
  | .leaf x => (8, 0, x.p) :: (if 0 < x.K then [(7, x.K.toNat, [])] else [])
  | .one x a => (if x.kind = 4 then (5, 0, []) else (6, x.n.toNat, [])) :: br3 (isBin a.root) a.toks
  | .two x a b => if x.kind = 2 then br3 (isOr a.root) a.toks ++ (3, 0, []) :: br3 (isBin b.root) b.toks
    else a.toks ++ (4, 0, []) :: br3 (isOr b.root) b.toks
theorem GT.toks_pos (t : GT) : 0 < t.toks.length := by
  cases t with
  | leaf x => simp [GT.toks]
  | one x a => simp [GT.toks]
  | two x a b => unfold GT.toks; split <;> simp <;> omega
theorem key_app {ts : List Tok} {A B : List T3} (h : ts.map Tok.key = A ++ B) : ∃ t1 t2, ts = t1 ++ t2 ∧ t1.map Tok.key = A ∧ t2.map Tok.key = B := by
  obtain ⟨a, b, h1, h2, h3⟩ := List.map_eq_append_iff.1 h
  exact ⟨a, b, h1, h2, h3⟩
theorem key_cons {ts : List Tok} {a : T3} {B : List T3} (h : ts.map Tok.key = a :: B) : ∃ t r, ts = t :: r ∧ t.key = a ∧ r.map Tok.key = B := by
  cases ts with
  | nil => cases h
  | cons t r => simp only [List.map_cons, List.cons.injEq] at h; exact ⟨t, r, rfl, h.1, h.2⟩
theorem nodeB_two {x : Nd} (h : nodeB x) (hk : x.kind = 2 ∨ x.kind = 3) : x = ⟨x.kind, 0, [], 0⟩ := by
  obtain ⟨k, n, p, K⟩ := x
  obtain ⟨h1, h2, h3, h4⟩ := h
  simp only at *
  rw [if_neg (by omega)] at h4
  rcases h1 with h1 | h1
  · omega
  · rw [h1, h4.1, h4.2]
theorem nodeB_not {x : Nd} (h : nodeB x) (hk : x.kind = 4) : x = ⟨4, 0, [], 0⟩ := by
  obtain ⟨k, n, p, K⟩ := x
  obtain ⟨h1, h2, h3, h4⟩ := h
  simp only at *
  rw [if_neg (by omega)] at h4
  rcases h1 with h1 | h1
  · omega
  · rw [h1, h4.1, h4.2, hk]
theorem nodeB_shift {x : Nd} (h : nodeB x) (hk : x.kind = 5) : x = ⟨5, (x.n.toNat : Int), [], 0⟩ ∧ 0 ≤ x.n ∧ x.n ≤ 1000000 := by
  obtain ⟨k, n, p, K⟩ := x
  obtain ⟨h1, h2, h3, h4⟩ := h
  simp only at *
  rw [if_neg (by omega)] at h4
  exact ⟨by rw [h4.1, h4.2, hk, Int.toNat_of_nonneg h2], h2, h3⟩
theorem nodeB_leaf {x : Nd} (h : nodeB x) (hk : x.kind = 1) : x = ⟨1, 0, x.p, x.K⟩ ∧ rightB x.p x.K = true ∧ 0 ≤ x.K ∧ x.K ≤ 64 := by
  obtain ⟨k, n, p, K⟩ := x
  obtain ⟨h1, h2, h3, h4⟩ := h
  simp only at *
  rw [if_pos hk] at h4
  have hr := h4
  unfold rightB at hr
  have := of_decide_eq_true hr
  rcases h1 with h1 | h1
  · omega
  · exact ⟨by rw [h1, hk], h4, this.2.2.2.1, this.2.2.2.2⟩
def GT.right (t : GT) : Prop := t.ok ∧ ∀ x ∈ t.flat, nodeB x
theorem GT.right.one {x : Nd} {a : GT} (h : (GT.one x a).right) : a.right := ⟨h.1.2, fun y hy => h.2 y (by simp [GT.flat, hy])⟩
theorem GT.right.left {x : Nd} {a b : GT} (h : (GT.two x a b).right) : a.right := ⟨h.1.2.1, fun y hy => h.2 y (by simp [GT.flat, hy])⟩
theorem GT.right.right {x : Nd} {a b : GT} (h : (GT.two x a b).right) : b.right := ⟨h.1.2.2, fun y hy => h.2 y (by simp [GT.flat, hy])⟩
theorem GT.right.root {t : GT} (h : t.right) : nodeB t.root := h.2 _ (by obtain ⟨r, e⟩ := t.flat_head; rw [e]; simp)
/-- What may stand behind a tree: no Fuzz. -/
abbrev gr (q : List Tok) : Prop := headNot 7 q
/-- What the tokens of a tree are read la, at the three levels. -/
structure Reads (t : GT) (n : Nat) (ts : List Tok) : Prop where
  item : t.root.kind ≠ 2 → t.root.kind ≠ 3 → ∀ q, gr q → itemR n (ts ++ q) (.ok t.flat q)
  part : t.root.kind ≠ 3 → ∀ q, gr q → ∀ R, LoopRd (itemR n) 3 2 t.flat q R → partR n (ts ++ q) R
  query : ∀ q, gr q → headNot 3 q → ∀ R, LoopRd (partR n) 4 3 t.flat q R → queryR n (ts ++ q) R
theorem head_key {t : Tok} {r : List Tok} {k k' n : Nat} {p : List Cls} (h : t.key = (k, n, p)) (hk : k ≠ k') : headNot k' (t :: r) := fun u q e => by
  injection e with e1 e2; subst e1
  have : t.kind = k := congrArg (fun x : T3 => x.1) h
  omega
theorem key_kind {t : Tok} {k n : Nat} {p : List Cls} (h : t.key = (k, n, p)) : t.kind = k ∧ t.n = n ∧ t.p = p := by
  unfold Tok.key at h
  simp only [Prod.mk.injEq] at h; exact h
theorem reads_bracket {t : GT} {n : Nat} {ts : List Tok} {b : Bool} (h : ∀ m us, us.map Tok.key = t.toks → us.length < m → Reads t m us) (hk : ts.map Tok.key = br3 b t.toks) (hl : ts.length < n) (hb : b = false → t.root.kind ≠ 2 ∧ t.root.kind ≠ 3) :
    ∀ q, gr q → itemR n (ts ++ q) (.ok t.flat q) := by
  intro q hq
  cases b with
  | false => exact (h n ts hk hl).item (hb rfl).1 (hb rfl).2 q hq
  | true =>
    obtain ⟨o, r, rfl, ho, hr⟩ := key_cons (show ts.map Tok.key = (1, 0, []) :: (t.toks ++ [(2, 0, [])]) from hk)
    obtain ⟨us, cs, rfl, hu, hc⟩ := key_app hr
    obtain ⟨c, z, rfl, hc1, hz⟩ := key_cons hc
    obtain rfl : z = [] := List.map_eq_nil_iff.1 hz
    cases n with
    | zero => omega
    | succ n =>
      simp only [List.length_cons, List.length_append, List.length_nil] at hl
      have hR := h n us hu (by omega)
      rw [itemR_succ]
      have e : (o :: (us ++ [c])) ++ q = o :: (us ++ (c :: q)) := by simp
      rw [e]
      exact .openOk (key_kind ho).1 (hR.query (c :: q) (head_key hc1 (by decide)) (head_key hc1 (by decide)) _ (.stop (head_key hc1 (by decide)))) (key_kind hc1).1
theorem reads_of (t : GT) : t.right → ∀ n ts, ts.map Tok.key = t.toks → ts.length < n → Reads t n ts := by
  induction t with
  | leaf x =>
    intro hr n ts hk hl
    have hx : x = ⟨1, 0, x.p, x.K⟩ ∧ rightB x.p x.K = true ∧ 0 ≤ x.K ∧ x.K ≤ 64 := nodeB_leaf (x := x) hr.root hr.1
    have hitem : ∀ q, gr q → itemR n (ts ++ q) (.ok [x] q) := by
      intro q hq
      cases n with
      | zero => omega
      | succ n =>
        rw [itemR_succ]
        obtain ⟨t, r, rfl, ht, hr2⟩ := key_cons hk
        have kt := key_kind ht
        by_cases hK : 0 < x.K
        · rw [if_pos hK] at hr2
          obtain ⟨u, z, rfl, hu, hz⟩ := key_cons hr2
          obtain rfl : z = [] := List.map_eq_nil_iff.1 hz
          have ku := key_kind hu
          have := ItemStep.fuzz (I := itemR n) (Q := queryR n) (t := t) (u := u) (r := q) kt.1 ku.1 (by rw [ku.2.1]; omega)
          rw [kt.2.2, ku.2.1, show ((x.K.toNat : Nat) : Int) = x.K from by omega] at this
          rw [hx.1]
          exact this
        · rw [if_neg hK] at hr2
          obtain rfl : r = [] := List.map_eq_nil_iff.1 hr2
          have := ItemStep.pat (I := itemR n) (Q := queryR n) (t := t) (r := q) kt.1 hq
          rw [kt.2.2] at this
          rw [hx.1, show x.K = 0 from by omega]
          exact this
    have hpart : ∀ q, gr q → ∀ R, LoopRd (itemR n) 3 2 [x] q R → partR n (ts ++ q) R := fun q hq R g => .go (hitem q hq) g
    exact ⟨fun _ _ q hq => hitem q hq, fun _ q hq R g => hpart q hq R g, fun q hq h3 R g => .go (hpart q hq _ (.stop h3)) g⟩
  | one x a ih =>
    intro hr n ts hk hl
    have hR : ∀ m us, us.map Tok.key = a.toks → us.length < m → Reads a m us := fun m us h1 h2 => ih hr.one m us h1 h2
    have hitem : ∀ q, gr q → itemR n (ts ++ q) (.ok (x :: a.flat) q) := by
      intro q hq
      cases n with
      | zero => omega
      | succ n =>
        rw [itemR_succ]
        obtain ⟨t, r, rfl, ht, hr2⟩ := key_cons hk
        simp only [List.length_cons] at hl
        have hin := reads_bracket (n := n) hR hr2 (by omega) (fun hb => by unfold isBin at hb; have := of_decide_eq_false hb; exact ⟨fun e => this (.inl e), fun e => this (.inr e)⟩) q hq
        rcases hr.1.1 with h4 | h5
        · rw [if_pos h4] at ht
          have e := nodeB_not hr.root h4
          replace e : x = _ := e
          rw [e]
          exact .notOk (key_kind ht).1 hin
        · rw [if_neg (by omega)] at ht
          have e := (nodeB_shift hr.root h5).1
          replace e : x = _ := e
          have kt := key_kind ht
          have := ItemStep.shiftOk (I := itemR n) (Q := queryR n) (t := t) kt.1 hin
          rw [kt.2.1] at this
          rw [e]
          exact this
    have hpart : ∀ q, gr q → ∀ R, LoopRd (itemR n) 3 2 (x :: a.flat) q R → partR n (ts ++ q) R := fun q hq R g => .go (hitem q hq) g
    exact ⟨fun _ _ q hq => hitem q hq, fun _ q hq R g => hpart q hq R g, fun q hq h3 R g => .go (hpart q hq _ (.stop h3)) g⟩
  | two x a b iha ihb =>
    intro hr n ts hk hl
    have hA : ∀ m us, us.map Tok.key = a.toks → us.length < m → Reads a m us := fun m us h1 h2 => iha hr.left m us h1 h2
    have hB : ∀ m us, us.map Tok.key = b.toks → us.length < m → Reads b m us := fun m us h1 h2 => ihb hr.right m us h1 h2
    have hx := nodeB_two hr.root hr.1.1
    replace hx : x = ⟨x.kind, 0, [], 0⟩ := hx
    rcases hr.1.1 with h2 | h3
    · unfold GT.toks at hk
      rw [if_pos h2] at hk
      obtain ⟨la, r, rfl, ha, hr2⟩ := key_app hk
      obtain ⟨s, bs, rfl, hs, hb⟩ := key_cons hr2
      simp only [List.length_append, List.length_cons] at hl
      have hib : ∀ q, gr q → itemR n (bs ++ q) (.ok b.flat q) := reads_bracket hB hb (by omega) (fun hb => by unfold isBin at hb; have := of_decide_eq_false hb; exact ⟨fun e => this (.inl e), fun e => this (.inr e)⟩)
      have hloop : ∀ q, gr q → ∀ R, LoopRd (itemR n) 3 2 (GT.two x a b).flat q R → LoopRd (itemR n) 3 2 a.flat (s :: (bs ++ q)) R := fun q hq R g => by
        refine .step (key_kind hs).1 (hib q hq) ?_
        have e : (GT.two x a b).flat = ⟨2, 0, [], 0⟩ :: (a.flat ++ b.flat) := by rw [hx, h2]; rfl
        rw [← e]; exact g
      have hpart : ∀ q, gr q → ∀ R, LoopRd (itemR n) 3 2 (GT.two x a b).flat q R → partR n ((la ++ s :: bs) ++ q) R := fun q hq R g => by
        rw [show (la ++ s :: bs) ++ q = la ++ (s :: (bs ++ q)) from by simp]
        have hs7 : gr (s :: (bs ++ q)) := head_key hs (by decide)
        by_cases hor : isOr a.root = true
        · rw [hor] at ha
          exact .go (reads_bracket hA ha (by omega) (fun hb => by cases hb) _ hs7) (hloop q hq R g)
        · have hor' : isOr a.root = false := by simpa using hor
          rw [hor'] at ha
          unfold isOr at hor'
          exact (hA n la ha (by omega)).part (of_decide_eq_false hor') _ hs7 R (hloop q hq R g)
      refine ⟨fun hc _ => absurd h2 hc, fun _ => hpart, fun q hq h3 R g => .go (hpart q hq _ (.stop h3)) g⟩
    · unfold GT.toks at hk
      rw [if_neg (by omega)] at hk
      obtain ⟨la, r, rfl, ha, hr2⟩ := key_app hk
      obtain ⟨s, bs, rfl, hs, hb⟩ := key_cons hr2
      simp only [List.length_append, List.length_cons] at hl
      refine ⟨fun _ hc => absurd h3 hc, fun hc => absurd h3 hc, fun q hq hq3 R g => ?_⟩
      rw [show (la ++ s :: bs) ++ q = la ++ (s :: (bs ++ q)) from by simp]
      have hs7 : gr (s :: (bs ++ q)) := head_key hs (by decide)
      have hpb : partR n (bs ++ q) (.ok b.flat q) := by
        by_cases hor : isOr b.root = true
        · rw [hor] at hb
          exact .go (reads_bracket hB hb (by omega) (fun hb => by cases hb) _ hq) (.stop hq3)
        · have hor' : isOr b.root = false := by simpa using hor
          rw [hor'] at hb
          unfold isOr at hor'
          exact (hB n bs hb (by omega)).part (of_decide_eq_false hor') _ hq _ (.stop hq3)
      refine (hA n la ha (by omega)).query _ hs7 (head_key hs (by decide)) R (.step (key_kind hs).1 hpb ?_)
      have e : (GT.two x a b).flat = ⟨3, 0, [], 0⟩ :: (a.flat ++ b.flat) := by rw [hx, h3]; rfl
      rw [← e]; exact g
/-- The tokens of a right tree are parsed la that tree. -/
theorem query_reads {t : GT} (h : t.right) {n : Nat} {ts : List Tok} (hk : ts.map Tok.key = t.toks) (hl : ts.length < n) : queryR n ts (.ok t.flat []) := by
  have := (reads_of t h n ts hk hl).query [] (fun t r e => by cases e) (fun t r e => by cases e) _ (.stop (fun t r e => by cases e))
  rwa [List.append_nil] at this
/-! ### The text of a tree is made of its tokens -/
theorem sgn_print (k : Nat) (h1 : 1 ≤ k) (h5 : k ≤ 5) : printS (k : Int) 0 [] = some (sgnS k) := by
  rw [printS_in (by omega), if_neg (by omega), if_neg (by simp), if_neg (by omega), if_pos rfl]
theorem num_print (k n : Nat) (h : k = 6 ∨ k = 7) (hn : n ≤ 1000000) : printS (k : Int) (n : Int) [] = some (sgnS k ++ decS n) := by
  rw [printS_in (by omega), if_neg (by omega), if_neg (by simp), if_pos (by omega), Int.toNat_natCast]
theorem pat_print {p : List Cls} {K : Int} (h : rightB p K = true) : printS 8 0 p = some (patT p) := by
  have hr : rightB p 0 = true := by unfold rightB at h ⊢; have := of_decide_eq_true h; exact decide_eq_true ⟨this.1, this.2.1, this.2.2.1, by omega, by omega⟩
  have e : printS 8 0 p = some (elemsT p ++ ⟨#[34]⟩) := by rw [printS_in (by omega), if_pos rfl, if_pos ⟨rfl, hr⟩]
  unfold patT
  rw [e]; rfl
/-- More of a text: its tokens are such. -/
def More (u : ByteArray) (ks : List T3) : Prop := ∀ s l, TextRun s l → ∃ ts : List Tok, ts.map Tok.key = ks ∧ TextRun (s ++ u) (l ++ ts)
theorem More.app {u v : ByteArray} {ks js : List T3} (h : More u ks) (k : More v js) : More (u ++ v) (ks ++ js) := fun s l hs => by
  obtain ⟨ts, h1, h2⟩ := h s l hs
  obtain ⟨us, h3, h4⟩ := k _ _ h2
  exact ⟨ts ++ us, by rw [List.map_append, h1, h3], by rw [← ByteArray.append_assoc, ← List.append_assoc]; exact h4⟩
theorem More.blank : More blankS [] := fun s l hs => ⟨[], rfl, by rw [List.append_nil]; exact hs.blank⟩
theorem More.tok {kd n : Nat} {xs : List Cls} {u : ByteArray} (h : printS (kd : Int) (n : Int) xs = some u) : More u [(kd, n, xs)] := fun s l hs => ⟨[⟨kd, s.size, n, xs⟩], rfl, by
  have := TextRun.tok hs h
  rwa [Int.toNat_natCast, Int.toNat_natCast] at this⟩
theorem More.br {u : ByteArray} {ks : List T3} (h : More u ks) (b : Bool) : More (Go.Proofs.Ytllblpiakijpaaa.br b u) (br3 b ks) := by
  cases b with
  | false => exact h
  | true =>
    have := ((More.tok (sgn_print 1 (by decide) (by decide))).app h).app (More.tok (sgn_print 2 (by decide) (by decide)))
    exact this
theorem text_more (t : GT) : t.right → More t.text t.toks := by
  induction t with
  | leaf x =>
    intro hr
    have hx : x = ⟨1, 0, x.p, x.K⟩ ∧ rightB x.p x.K = true ∧ 0 ≤ x.K ∧ x.K ≤ 64 := nodeB_leaf (x := x) hr.root hr.1
    have h8 := pat_print hx.2.1
    have hm : More (patT x.p) [(8, 0, x.p)] := More.tok (kd := 8) (n := 0) h8
    show More (leafT x) ((8, 0, x.p) :: (if 0 < x.K then [(7, x.K.toNat, [])] else []))
    unfold leafT
    by_cases hK : 0 < x.K
    · rw [if_pos hK, if_pos hK]
      exact hm.app (More.tok (num_print 7 x.K.toNat (.inr rfl) (by have := hx.2.2.2; omega)))
    · rw [if_neg hK, if_neg hK]; exact hm
  | one x a ih =>
    intro hr
    show More (oneT x ++ Go.Proofs.Ytllblpiakijpaaa.br (isBin a.root) a.text) ((if x.kind = 4 then (5, 0, []) else (6, x.n.toNat, [])) :: br3 (isBin a.root) a.toks)
    unfold oneT
    rcases hr.1.1 with h4 | h5
    · rw [if_pos h4, if_pos h4]
      exact (More.tok (sgn_print 5 (by decide) (by decide))).app ((ih hr.one).br _)
    · rw [if_neg (by omega), if_neg (by omega)]
      have := nodeB_shift hr.root h5
      replace this : x = _ ∧ 0 ≤ x.n ∧ x.n ≤ 1000000 := this
      exact (More.tok (num_print 6 x.n.toNat (.inl rfl) (by omega))).app ((ih hr.one).br _)
  | two x a b iha ihb =>
    intro hr
    unfold GT.text GT.toks
    by_cases h2 : x.kind = 2
    · rw [if_pos h2, if_pos h2]
      have := (((((iha hr.left).br (isOr a.root)).app .blank).app (More.tok (sgn_print 3 (by decide) (by decide)))).app .blank).app ((ihb hr.right).br (isBin b.root))
      simpa using this
    · rw [if_neg h2, if_neg h2]
      have := ((((iha hr.left).app .blank).app (More.tok (sgn_print 4 (by decide) (by decide)))).app .blank).app ((ihb hr.right).br (isOr b.root))
      simpa using this
/-- The text of a right tree is lexed, and parsed la that tree. -/
theorem text_parsed {t : GT} (h : t.right) (hs : t.text.size ≤ 1000) : ∃ ts, lexS t.text (.ok ts t.text.size) ∧ ∀ n, ts.length < n → queryR n ts (.ok t.flat []) := by
  obtain ⟨ts, h1, h2⟩ := text_more t h _ _ TextRun.nil
  rw [ByteArray.empty_append, List.nil_append] at h2
  exact ⟨ts, h2.lex hs, fun n hn => query_reads h h1 hn⟩
end Go.Proofs.Ytllblpiakijpaaa

/- Layer 14: pure words: the tree that begins a row; depth; right rows. No program. -/
namespace Go.Proofs.Ytllblpiakijpaaa
open Go.RowKit
set_option linter.unusedVariables false
/-- The tree that begins a row, and what stands behind it. -/
def takeT : Nat → List Nd → Option (GT × List Nd)
  | 0, _ => none
  | _ + 1, [] => none
  | f + 1, x :: xs =>
    if arS x.kind = 0 then some (.leaf x, xs)
    else if arS x.kind = 1 then (match takeT f xs with
      | some (a, r) => some (.one x a, r)
      | none => none)
    else if arS x.kind = 2 then (match takeT f xs with
      | some (a, r) => (match takeT f r with
        | some (b, q) => some (.two x a b, q)
        | none => none)
      | none => none)
    else none
theorem takeT_flat (t : GT) : ∀ (f : Nat) (r : List Nd), t.ok → t.flat.length ≤ f → takeT f (t.flat ++ r) = some (t, r) := by
  induction t with
  | leaf x =>
    intro f r h hf
    cases f with
    | zero => simp [GT.flat] at hf
    | succ f => simp only [GT.flat, List.cons_append, List.nil_append, takeT]; rw [if_pos (arS_0 h)]
  | one x a ih =>
    intro f r h hf
    cases f with
    | zero => simp [GT.flat] at hf
    | succ f =>
      simp only [GT.flat, List.length_cons] at hf
      simp only [GT.flat, List.cons_append, takeT]
      rw [if_neg (by rw [arS_1 h.1]; omega), if_pos (arS_1 h.1), ih f r h.2 (by omega)]
  | two x a b iha ihb =>
    intro f r h hf
    cases f with
    | zero => simp [GT.flat] at hf
    | succ f =>
      simp only [GT.flat, List.length_cons, List.length_append] at hf
      simp only [GT.flat, List.cons_append, takeT, List.append_assoc]
      rw [if_neg (by rw [arS_2 h.1]; omega), if_neg (by rw [arS_2 h.1]; omega), if_pos (arS_2 h.1), iha f _ h.2.1 (by omega)]
      simp only []
      rw [ihb f r h.2.2 (by omega)]
theorem takeT_some : ∀ (f : Nat) (L : List Nd) (t : GT) (r : List Nd), takeT f L = some (t, r) → t.ok ∧ L = t.flat ++ r := by
  intro f
  induction f with
  | zero => intro L t r h; cases h
  | succ f ih =>
    intro L t r h
    cases L with
    | nil => cases h
    | cons x xs =>
      simp only [takeT] at h
      rcases arS_cases x.kind with ⟨hk, e⟩ | ⟨hk, e⟩ | ⟨hk, e⟩ | e
      · rw [if_pos e] at h
        injection h with h; injection h with h1 h2; subst h1 h2
        exact ⟨hk, rfl⟩
      · rw [if_neg (by omega), if_pos e] at h
        cases h1 : takeT f xs with
        | none => rw [h1] at h; cases h
        | some p =>
          obtain ⟨a, q⟩ := p
          rw [h1] at h
          injection h with h; injection h with h2 h3; subst h2 h3
          have := ih _ _ _ h1
          exact ⟨⟨hk, this.1⟩, by rw [this.2]; rfl⟩
      · rw [if_neg (by omega), if_neg (by omega), if_pos e] at h
        cases h1 : takeT f xs with
        | none => rw [h1] at h; cases h
        | some p =>
          obtain ⟨a, q⟩ := p
          rw [h1] at h
          simp only [] at h
          cases h2 : takeT f q with
          | none => rw [h2] at h; cases h
          | some p2 =>
            obtain ⟨b, q2⟩ := p2
            rw [h2] at h
            injection h with h; injection h with h3 h4; subst h3 h4
            have i1 := ih _ _ _ h1
            have i2 := ih _ _ _ h2
            exact ⟨⟨hk, i1.1, i2.1⟩, by rw [i1.2, i2.2]; simp [GT.flat]⟩
      · rw [if_neg (by omega), if_neg (by omega), if_neg (by omega)] at h; cases h
def depthN (L : List Nd) : Nat := match takeT L.length L with
  | some (t, []) => t.deep
  | _ => 0
theorem depthN_tree {t : GT} (h : t.ok) : depthN t.flat = t.deep := by
  have := takeT_flat t t.flat.length [] h (Nat.le_refl _)
  rw [List.append_nil] at this
  unfold depthN; rw [this]
theorem depthN_pos {L : List Nd} (h : depthN L ≠ 0) : ∃ t : GT, t.ok ∧ L = t.flat := by
  unfold depthN at h
  cases h1 : takeT L.length L with
  | none => rw [h1] at h; exact absurd rfl h
  | some p =>
    obtain ⟨t, r⟩ := p
    have := takeT_some _ _ _ _ h1
    cases r with
    | nil => exact ⟨t, this.1, by rw [← List.append_nil t.flat]; exact this.2⟩
    | cons y ys => rw [h1] at h; exact absurd rfl h
/-- A row is just one tree, or its size is not its length. -/
theorem size_depth (L : List Nd) : (L ≠ [] ∧ sizeN L = L.length ∧ ∃ t : GT, t.ok ∧ L = t.flat) ∨ ((L = [] ∨ sizeN L ≠ L.length) ∧ depthN L = 0) := by
  by_cases hd : depthN L = 0
  · right
    refine ⟨?_, hd⟩
    by_cases h0 : L = []
    · exact .inl h0
    · right
      intro e
      have hz : sizeN L ≠ 0 := by rw [e]; exact fun h => h0 (List.eq_nil_of_length_eq_zero h)
      obtain ⟨t, ht, r, hr, hs⟩ := sizeN_of hz
      have hrl : r = [] := by
        have := congrArg List.length hr
        rw [List.length_append] at this
        exact List.eq_nil_of_length_eq_zero (by omega)
      subst hrl
      rw [List.append_nil] at hr
      have := depthN_tree ht
      rw [← hr, hd] at this
      have := t.deep_pos
      omega
  · left
    obtain ⟨t, ht, e⟩ := depthN_pos hd
    refine ⟨?_, ?_, t, ht, e⟩
    · rw [e]; intro h; have := t.flat_pos; rw [h] at this; simp at this
    · have := sizeN_tree t [] ht
      rw [List.append_nil] at this
      rw [e]; exact this
/-- The trees behind a node. -/
def GT.kids : GT → List GT
  | .leaf _ => []
  | .one _ a => [a]
  | .two _ a b => [a, b]
def maxD (ts : List GT) : Nat := ts.foldl (fun m t => max m t.deep) 0
theorem maxD_snoc (ts : List GT) (t : GT) : maxD (ts ++ [t]) = max (maxD ts) t.deep := by unfold maxD; rw [List.foldl_append]; rfl
theorem GT.kids_flat (t : GT) : t.flat = t.root :: t.kids.flatMap GT.flat := by cases t <;> simp [GT.flat, GT.kids, GT.root]
theorem GT.kids_deep (t : GT) : t.deep = maxD t.kids + 1 := by cases t <;> simp [GT.deep, GT.kids, maxD]
theorem GT.kids_ar {t : GT} (h : t.ok) : arS t.root.kind = t.kids.length := by
  cases t with
  | leaf x => exact arS_0 h
  | one x a => exact arS_1 h.1
  | two x a b => exact arS_2 h.1
theorem GT.kids_ok {t : GT} (h : t.ok) : ∀ k ∈ t.kids, k.ok := by
  cases t with
  | leaf x => intro k hk; simp [GT.kids] at hk
  | one x a => intro k hk; simp [GT.kids] at hk; subst hk; exact h.2
  | two x a b => intro k hk; simp [GT.kids] at hk; rcases hk with rfl | rfl; exact h.2.1; exact h.2.2
theorem GT.kids_less {t : GT} : ∀ k ∈ t.kids, k.flat.length < t.flat.length := by
  cases t with
  | leaf x => intro k hk; simp [GT.kids] at hk
  | one x a => intro k hk; simp [GT.kids] at hk; subst hk; simp [GT.flat]
  | two x a b => intro k hk; simp [GT.kids] at hk; rcases hk with rfl | rfl <;> simp [GT.flat] <;> omega
/-- Is a row a right tree? -/
def nodeD (x : Nd) : Bool := if x.kind ≠ 5 ∧ x.n ≠ 0 then false else if x.n < 0 then false else if 1000000 < x.n then false else if x.kind = 1 then rightB x.p x.K else (decide (x.p.length = 0) && decide (x.K = 0))
theorem nodeD_iff (x : Nd) : nodeD x = true ↔ nodeB x := by
  unfold nodeD nodeB
  by_cases h1 : x.kind ≠ 5 ∧ x.n ≠ 0
  · rw [if_pos h1]; simp only [Bool.false_eq_true, false_iff]; rintro ⟨h, _⟩; omega
  · rw [if_neg h1]
    by_cases h2 : x.n < 0
    · rw [if_pos h2]; simp only [Bool.false_eq_true, false_iff]; rintro ⟨_, h, _⟩; omega
    · rw [if_neg h2]
      by_cases h3 : 1000000 < x.n
      · rw [if_pos h3]; simp only [Bool.false_eq_true, false_iff]; rintro ⟨_, _, h, _⟩; omega
      · rw [if_neg h3]
        by_cases h4 : x.kind = 1
        · rw [if_pos h4, if_pos h4]; exact ⟨fun h => ⟨by omega, by omega, by omega, h⟩, fun h => h.2.2.2⟩
        · rw [if_neg h4, if_neg h4]
          simp only [Bool.and_eq_true, decide_eq_true_eq, List.length_eq_zero_iff]
          exact ⟨fun h => ⟨by omega, by omega, by omega, h⟩, fun h => h.2.2.2⟩
def rightN (L : List Nd) : Bool := decide (L.length ≤ 64) && L.all nodeD && decide (1 ≤ depthN L) && decide (depthN L ≤ 16)
theorem rightN_tree {L : List Nd} (h : rightN L = true) : ∃ t : GT, t.right ∧ L = t.flat ∧ t.flat.length ≤ 64 ∧ t.deep ≤ 16 := by
  unfold rightN at h
  simp only [Bool.and_eq_true, decide_eq_true_eq, List.all_eq_true] at h
  obtain ⟨⟨⟨h1, h2⟩, h3⟩, h4⟩ := h
  obtain ⟨t, ht, e⟩ := depthN_pos (by omega : depthN L ≠ 0)
  subst e
  exact ⟨t, ⟨ht, fun x hx => (nodeD_iff x).1 (h2 x hx)⟩, rfl, h1, by rw [depthN_tree ht] at h4; exact h4⟩
theorem tree_rightN {t : GT} (h : t.right) (h64 : t.flat.length ≤ 64) (h16 : t.deep ≤ 16) : rightN t.flat = true := by
  unfold rightN
  simp only [Bool.and_eq_true, decide_eq_true_eq, List.all_eq_true]
  have := t.deep_pos
  exact ⟨⟨⟨h64, fun x hx => (nodeD_iff x).2 (h.2 x hx)⟩, by rw [depthN_tree h.1]; omega⟩, by rw [depthN_tree h.1]; exact h16⟩
end Go.Proofs.Ytllblpiakijpaaa

/- Layer 13: rows of tokens that are read. -/
namespace Go.Proofs.Ytllblpiakijpaaa
open Go.RowKit
set_option linter.unusedVariables false
/-- A row of tokens that is read. -/
structure TRead (F : Nat → Prop) (w : World) (A : Option Addr) (n c : Nat) (ps : List TP) : Prop where
  len : ps.length = n
  row : RowAt 4 F w A n c (ps.flatMap tpL)
  els : ∀ p ∈ ps, PRead F w p
theorem TRow.read {w : World} {base : Nat} {T : TypeId} {A : Option Addr} {n c : Nat} {ps : List TP} (h : TRow w base T A n c ps) : TRead (fun k => base ≤ k) w A n c ps :=
  ⟨h.len, (RowAt.of_own h.own).mono (fun k _ hF => hF.2), fun p hp => ⟨(h.els p hp).row.mono (fun k _ hF => hF.1), (h.els p hp).len⟩⟩
theorem TRead.chg {F S : Nat → Prop} {w w' : World} {A : Option Addr} {n c : Nat} {ps : List TP} (h : TRead F w A n c ps) (hc : Chg S w w') (hd : ∀ k, k < w.heap.size → F k → ¬ S k) : TRead F w' A n c ps :=
  ⟨h.len, h.row.chg hc hd, fun p hp => ⟨(h.els p hp).row.chg hc hd, (h.els p hp).len⟩⟩
def tp0 : TP := ⟨⟨0, 0, 0, []⟩, none, 0, 0⟩
theorem clsL_len (x : Cls) : (clsL x).length = 4 := rfl
theorem TRead.top {F : Nat → Prop} {w : World} {A : Option Addr} {n c : Nat} {ps : List TP} (h : TRead F w A n c ps) : TRead (fun _ => True) w A n c ps :=
  ⟨h.len, h.row.mono (fun _ _ _ => trivial), fun p hp => ⟨(h.els p hp).row.mono (fun _ _ _ => trivial), (h.els p hp).len⟩⟩
end Go.Proofs.Ytllblpiakijpaaa

/- Layer 14: plain words: trees, taken one by one. No program. -/
namespace Go.Proofs.Ytllblpiakijpaaa
open Go.RowKit
set_option linter.unusedVariables false
/-! ### Plain words: trees, taken one by one -/
def tk (L : List Nd) : Option (GT × List Nd) := takeT L.length L
theorem takeT_fuel {f : Nat} {L : List Nd} (h : L.length ≤ f) : takeT f L = tk L := by
  unfold tk
  cases h1 : takeT L.length L with
  | some p =>
    obtain ⟨t, r⟩ := p
    have := takeT_some _ _ _ _ h1
    rw [this.2]
    exact takeT_flat t f r this.1 (by have := congrArg List.length this.2; rw [List.length_append] at this; omega)
  | none =>
    cases h2 : takeT f L with
    | none => rfl
    | some p =>
      obtain ⟨t, r⟩ := p
      have := takeT_some _ _ _ _ h2
      rw [this.2, takeT_flat t _ r this.1 (by rw [List.length_append]; omega)] at h1
      cases h1
def takeN : Nat → List Nd → Option (List GT × List Nd)
  | 0, l => some ([], l)
  | j + 1, l => match tk l with
    | none => none
    | some (a, r) => match takeN j r with
      | none => none
      | some (ts, q) => some (a :: ts, q)
theorem takeN_zero (l : List Nd) : takeN 0 l = some ([], l) := rfl
theorem takeN_succ (j : Nat) (l : List Nd) : takeN (j + 1) l = match tk l with
    | none => none
    | some (a, r) => match takeN j r with
      | none => none
      | some (ts, q) => some (a :: ts, q) := rfl
def mkT (x : Nd) : List GT → GT
  | [] => .leaf x
  | [a] => .one x a
  | a :: b :: _ => .two x a b
theorem takeN_len : ∀ (j : Nat) (l : List Nd) (ts : List GT) (q : List Nd), takeN j l = some (ts, q) → ts.length = j
  | 0, l, ts, q, h => by injection h with h; injection h with h1 h2; subst h1; rfl
  | j + 1, l, ts, q, h => by
    unfold takeN at h
    cases h1 : tk l with
    | none => rw [h1] at h; cases h
    | some p =>
      obtain ⟨a, r⟩ := p
      rw [h1] at h
      simp only [] at h
      cases h2 : takeN j r with
      | none => rw [h2] at h; cases h
      | some p2 =>
        obtain ⟨us, s⟩ := p2
        rw [h2] at h
        injection h with h; injection h with h3 h4; subst h3
        rw [List.length_cons, takeN_len j r us s h2]
theorem tk_cons (x : Nd) (xs : List Nd) (h : 0 ≤ arS x.kind) : tk (x :: xs) = (match takeN (arS x.kind).toNat xs with
    | none => none
    | some (ts, r) => some (mkT x ts, r)) := by
  unfold tk
  rw [List.length_cons]
  simp only [takeT]
  rcases arS_cases x.kind with ⟨hk, e⟩ | ⟨hk, e⟩ | ⟨hk, e⟩ | e
  · rw [if_pos e, e]; rfl
  · rw [if_neg (by omega), if_pos e, e, takeT_fuel (Nat.le_refl _)]
    show _ = (match takeN 1 xs with
      | none => none
      | some (ts, r) => some (mkT x ts, r))
    unfold takeN
    cases tk xs with
    | none => rfl
    | some p => obtain ⟨a, r⟩ := p; rfl
  · rw [if_neg (by omega), if_neg (by omega), if_pos e, e, takeT_fuel (Nat.le_refl _)]
    show _ = (match takeN 2 xs with
      | none => none
      | some (ts, r) => some (mkT x ts, r))
    unfold takeN
    cases h1 : tk xs with
    | none => rfl
    | some p =>
      obtain ⟨a, r⟩ := p
      have := takeT_some _ _ _ _ h1
      have hl := congrArg List.length this.2
      rw [List.length_append] at hl
      simp only []
      rw [takeT_fuel (show r.length ≤ xs.length by omega)]
      unfold takeN
      cases tk r with
      | none => rfl
      | some p2 => obtain ⟨b, q⟩ := p2; rfl
  · omega
theorem tk_no (x : Nd) (xs : List Nd) (h : arS x.kind < 0) : tk (x :: xs) = none := by
  unfold tk
  rw [List.length_cons]
  simp only [takeT]
  rw [if_neg (by omega), if_neg (by omega), if_neg (by omega)]
theorem mkT_flat {x : Nd} {ts : List GT} (h : ts.length ≤ 2) : (mkT x ts).flat = x :: ts.flatMap GT.flat := by
  match ts, h with
  | [], _ => rfl
  | [a], _ => simp [mkT, GT.flat]
  | [a, b], _ => simp [mkT, GT.flat]
theorem mkT_deep {x : Nd} {ts : List GT} (h : ts.length ≤ 2) : (mkT x ts).deep = maxD ts + 1 := by
  match ts, h with
  | [], _ => rfl
  | [a], _ => simp [mkT, GT.deep, maxD]
  | [a, b], _ => simp [mkT, GT.deep, maxD]
/-- What Walk answers. -/
def walkV (L : List Nd) (a : Nat) : Int × Int := match tk (L.drop a) with
  | some (t, _) => (((a + t.flat.length : Nat) : Int), ((t.deep : Nat) : Int))
  | none => (-1, 0)
theorem tk_some {L : List Nd} {t : GT} {r : List Nd} (h : tk L = some (t, r)) : t.ok ∧ L = t.flat ++ r := takeT_some _ _ _ _ h
end Go.Proofs.Ytllblpiakijpaaa

/- Appending inside a region that draws its order. No program. -/
namespace Go.Proofs.Ytllblpiakijpaaa
open Go.RowKit
set_option linter.unusedVariables false
theorem run_append_gen {P : Program} {w : World} (base : Nat) (t ty e : TypeId) (z : Value) (size bytes : Nat) (ht : P.underlying t = some (.slice e)) (hinfo : (P.info? e).map (fun i => (i.zero, i.size, i.bytes)) = some (some z, size, bytes))
    (hzs : z.cells.size = size) (hsz : 0 < size) (A : Option Addr) (c n : Nat) (xs : List Value) (hown : w.ownsRow base e size (.slice A n c) n xs)
    (B : Option Addr) (m d : Nat) (news : List Value) (hl : news.length = m * size) (hB : B = none → d = 0) (hmd : m ≤ d)
    (hnews : ∀ ad, B = some ad → ∀ j u, news[j]? = some u → w.cell? (ad.add j) = some u) (h1 : ∀ u ∈ news, u.oneCell' = true)
    (h63 : n + m ≤ maxLen) (hbytes : (n + m) * bytes ≤ 140737488355328) (hbase : base ≤ w.heap.size) :
    ∃ A' c' w', (Builtin.append_ #[t, t] ty #[.slice A n c, .slice B m d]).run P w = .ok (.slice A' (n + m) c') w' ∧ w'.ownsRow base e size (.slice A' (n + m) c') (n + m) (xs ++ news) ∧ Chg (Of A) w w' ∧ (∀ k, Of A' k → Of A k ∨ w.heap.size ≤ k) := by
  obtain ⟨i0, hi, hz0, hz1, hz2⟩ := info_parts hinfo
  cases B with
  | none =>
    have hd := hB rfl
    subst hd
    have hm : m = 0 := by omega
    subst hm
    have hn0 : news = [] := List.eq_nil_of_length_eq_zero (by simpa using hl)
    subst hn0
    exact ⟨A, c, w, run_append_owned_none (P := P) (w := w) base t ty e i0 size ht hi _ n xs hown, by simpa using hown, Chg.refl _ _, fun k hk => .inl hk⟩
  | some ad =>
    obtain ⟨v', w', hr, h2, h3, h4, h5⟩ := run_append_own_at (P := P) w base t ty e i0 z size bytes ht hi hz0 hz1 hz2 hzs hsz _ n xs hown ad m d news hl (hnews ad rfl) h1 h63 hbytes hbase
    obtain ⟨A', c', rfl⟩ := own_slice h2
    refine ⟨A', c', w', hr, h2, Chg.of_grownBy h3 (fun k hk _ => (ownBlock_slice A n c k).1 hk), fun k hk => ?_⟩
    have hk' := (ownBlock_slice A' (n + m) c' k).2 hk
    rcases h5 with h5 | h5
    · left; exact (ownBlock_slice A n c k).1 (h5 ▸ hk')
    · right
      rw [hk'] at h5
      injection h5 with h5
      omega
/-- append as one step of a region that draws. -/
theorem step_append_gen {P : Program} {w : World} {ops : Array Oper} {o : Oper} {a : Act} {K : Act → World → Prop} {Q : Exit → Act → World → Prop} {E : Prop} (hgd : o.guard = none) (s x : Operand) (t : TypeId)
    (ho : o.op = .call { callee := .builtin .append, args := #[s, x], argTypes := #[t, t] })
    (base : Nat) (e : TypeId) (z : Value) (size bytes : Nat) (ht : P.underlying t = some (.slice e)) (hinfo : (P.info? e).map (fun i => (i.zero, i.size, i.bytes)) = some (some z, size, bytes))
    (hzs : z.cells.size = size) (hsz : 0 < size)
    (A : Option Addr) (c n : Nat) (xs : List Value) (hs : a.eval s = .slice A n c) (hown : w.ownsRow base e size (.slice A n c) n xs)
    (B : Option Addr) (m d : Nat) (news : List Value) (hx : a.eval x = .slice B m d) (hl : news.length = m * size) (hB : B = none → d = 0) (hmd : m ≤ d)
    (hnews : ∀ ad, B = some ad → ∀ j u, news[j]? = some u → w.cell? (ad.add j) = some u) (h1 : ∀ u ∈ news, u.oneCell' = true)
    (h63 : n + m ≤ maxLen) (hbytes : (n + m) * bytes ≤ 140737488355328) (hbase : base ≤ w.heap.size)
    (h : ∀ A' c' w', w'.ownsRow base e size (.slice A' (n + m) c') (n + m) (xs ++ news) → Chg (Of A) w w' → (∀ k, Of A' k → Of A k ∨ w.heap.size ≤ k) → K (a.put o.dst (.slice A' (n + m) c')) w') :
    if Region.wanted o (yielded ops a.tmps) = true then Oper.wp P o a w K Q else E := by
  have hw : Region.wanted o (yielded ops a.tmps) = true := by simp [Region.wanted, hgd]
  rw [if_pos hw]
  obtain ⟨A', c', w', hr, h2, h3, h4⟩ := run_append_gen (P := P) base t o.type e z size bytes ht hinfo hzs hsz A c n xs hown B m d news hl hB hmd hnews h1 h63 hbytes hbase
  unfold Oper.wp execOp
  simp only [ho, resolve, invoke, builtin, Sem.run_bind, Sem.run_pure, Result.andThen_ok, List.map_toArray, List.map_cons, List.map_nil, hs, hx, hr]
  exact h A' c' w' h2 h3 h4
end Go.Proofs.Ytllblpiakijpaaa
