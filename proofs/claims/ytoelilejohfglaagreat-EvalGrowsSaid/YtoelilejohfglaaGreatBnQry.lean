/- Joined texts: ReadC QryP QryQ QryR QryS QryT. -/
import Derived.Test.YtoelilejohfglaaGreatBunG
namespace Go.Proofs.YtoelilejohfglaaGreat
open Go.RowKit
set_option linter.unusedVariables false
set_option linter.unusedSimpArgs false
def blankS : ByteArray := ⟨#[32]⟩
inductive TextRun : ByteArray → List Tok → Prop
 | nil : TextRun ByteArray.empty []
 | blank {s : ByteArray} {l : List Tok} (h : TextRun s l) : TextRun (s ++ blankS) l
 | tok {s : ByteArray} {l : List Tok} {kd n : Int} {xs : List Cls} {u : ByteArray} (h : TextRun s l) (hp : printS kd n xs = some u) : TextRun (s ++ u) (l ++ [⟨kd.toNat, s.size, n.toNat, xs⟩])
theorem TextRun.read {s : ByteArray} {l : List Tok} (h : TextRun s l) : ∀ {T : ByteArray}, At T 0 s → ¬ isDig T s.size → ∀ R, LexRun T s.size l R → LexRun T 0 [] R := by
 induction h with
 | nil => intro T _ _ R hR; exact hR
 | @blank s l h ih =>
  intro T hA hd R hR
  have h2 := hA.right
  have e0 := h2.eq 0 (by decide)
  have l0 := h2.lt 0 (by decide)
  rw [Nat.zero_add] at e0 l0
  replace e0 : byteAt T s.size = 32 := e0
  replace l0 : s.size < T.size := l0
  have z : blankS.size = 1 := rfl
  rw [ByteArray.size_append, z] at hR
  exact ih hA.left (by unfold isDig; omega) R (.blank l0 e0 hR)
 | @tok s l kd n xs u h hp ih =>
  intro T hA hd R hR
  have h2 := hA.right
  rw [Nat.zero_add] at h2
  rw [ByteArray.size_append] at hd hR
  have hr := tok_read hp h2 hd
  have hlt := h2.lt 0 hr.2.1
  exact ih hA.left hr.2.2.2.2.2.2.2 R (.step (by omega) hr.2.2.1 hr.1 hR)
theorem finC_ne {ng : Bool} {op : Nat} {R : Rd (Cls × Nat)} {x : Cls} {b : Nat} (h : finC ng op R = .ok x b) : x ≠ 0 := by
 cases R with
 | bad p e => cases h
 | ok v c =>
  obtain ⟨y, n⟩ := v
  have e : finC ng op (.ok (y, n) c) = if n = 0 ∨ (if ng then ~~~ y else y) = 0 then .bad op 132 else .ok (if ng then ~~~ y else y) c := rfl
  rw [e] at h
  by_cases hc : n = 0 ∨ (if ng then ~~~ y else y) = 0
  ·rw [if_pos hc] at h; cases h
  ·rw [if_neg hc] at h; injection h with h1 h2; rw [← h1]; exact fun e => hc (.inr e)
theorem full_ne : fullC ≠ 0 := by decide
theorem two_ne (b : Nat) (h : b < 256) : BitVec.twoPow 256 b ≠ (0 : Cls) := by
 intro e
 have : (BitVec.twoPow 256 b).getLsbD b = (0 : Cls).getLsbD b := by rw [e]
 simp [h] at this
theorem ElemRd.ne {s : ByteArray} {a : Nat} {R : Rd Cls} (h : ElemRd s a R) (ha : a < s.size) {x : Cls} {b : Nat} (hR : R = .ok x b) : x ≠ 0 := by
 cases h with
 | full h1 => injection hR with e1 e2; rw [← e1]; exact full_ne
 | cls h1 k => exact finC_ne hR
 | byte h1 h2 => obtain ⟨v, hv, rfl⟩ := Rd.map_ok hR; exact two_ne v (oneS_ok hv ha).2.2
theorem PatRun.ne {s : ByteArray} {a : Nat} {xs : List Cls} {R : Rd (List Cls)} (h : PatRun s a xs R) : (∀ x ∈ xs, x ≠ 0) → ∀ ys b, R = .ok ys b → ∀ y ∈ ys, y ≠ 0 := by
 induction h with
 | stop h => intro _ ys b e; cases e
 | close h hb h1 => intro hx ys b e; injection e with e1 e2; subst e1; exact hx
 | empty h hb h1 => intro _ ys b e; cases e
 | long h hb h1 => intro _ ys b e; cases e
 | bad h hb h1 k => intro _ ys b e; cases e
 | step h hb h1 k r ih =>
  intro hx
  refine ih fun y hy => ?_
  rw [List.mem_append, List.mem_singleton] at hy
  rcases hy with hy | rfl
  ·exact hx y hy
  ·exact k.ne h rfl
structure Nd where
 kind : Int
 n : Int
 p : List Cls
 K : Int
def arS (k : Int) : Int := if k = 1 then 0 else if k = 4 ∨ k = 5 then 1 else if k = 2 ∨ k = 3 then 2 else -1
inductive GT where
 | leaf (x : Nd)
 | one (x : Nd) (a : GT)
 | two (x : Nd) (a b : GT)
def GT.ok : GT → Prop
 | .leaf x => x.kind = 1
 | .one x a => (x.kind = 4 ∨ x.kind = 5) ∧ a.ok
 | .two x a b => (x.kind = 2 ∨ x.kind = 3) ∧ a.ok ∧ b.ok
def GT.flat : GT → List Nd
 | .leaf x => [x]
 | .one x a => x :: a.flat
 | .two x a b => x :: (a.flat ++ b.flat)
def GT.deep : GT → Nat
 | .leaf _ => 1
 | .one _ a => a.deep + 1
 | .two _ a b => max a.deep b.deep + 1
def GT.root : GT → Nd
 | .leaf x => x
 | .one x _ => x
 | .two x _ _ => x
theorem GT.flat_pos (t : GT) : 0 < t.flat.length := by cases t <;> simp [GT.flat]
theorem GT.deep_pos (t : GT) : 0 < t.deep := by cases t <;> simp [GT.deep]
theorem GT.flat_head (t : GT) : ∃ r, t.flat = t.root :: r := by cases t <;> exact ⟨_, rfl⟩
def sizeGo : List Nd → Int → Nat → Nat
 | [], _, _ => 0
 | x :: xs, op, k => if arS x.kind < 0 then 0 else if op + (arS x.kind - 1) = 0 then k + 1 else sizeGo xs (op + (arS x.kind - 1)) (k + 1)
def sizeN (l : List Nd) : Nat := sizeGo l 1 0
theorem arS_0 {k : Int} (h : k = 1) : arS k = 0 := by unfold arS; rw [if_pos h]
theorem arS_1 {k : Int} (h : k = 4 ∨ k = 5) : arS k = 1 := by unfold arS; rw [if_neg (by omega), if_pos h]
theorem arS_2 {k : Int} (h : k = 2 ∨ k = 3) : arS k = 2 := by unfold arS; rw [if_neg (by omega), if_neg (by omega), if_pos h]
theorem arS_cases (k : Int) : (k = 1 ∧ arS k = 0) ∨ ((k = 4 ∨ k = 5) ∧ arS k = 1) ∨ ((k = 2 ∨ k = 3) ∧ arS k = 2) ∨ arS k = -1 := by
 unfold arS
 by_cases h1 : k = 1
 ·rw [if_pos h1]; exact .inl ⟨h1, rfl⟩
 ·rw [if_neg h1]
  by_cases h2 : k = 4 ∨ k = 5
  ·rw [if_pos h2]; exact .inr (.inl ⟨h2, rfl⟩)
  ·rw [if_neg h2]
   by_cases h3 : k = 2 ∨ k = 3
   ·rw [if_pos h3]; exact .inr (.inr (.inl ⟨h3, rfl⟩))
   ·rw [if_neg h3]; exact .inr (.inr (.inr rfl))
theorem sizeGo_tree (t : GT) : ∀ (rest : List Nd) (op : Int) (k : Nat), t.ok → 1 ≤ op → sizeGo (t.flat ++ rest) op k = if op = 1 then k + t.flat.length else sizeGo rest (op - 1) (k + t.flat.length) := by
 induction t with
 | leaf x =>
  intro rest op k h hop
  have e := arS_0 h
  simp only [GT.flat, List.cons_append, List.nil_append, sizeGo, e, List.length_singleton]
  rw [if_neg (by omega)]
  by_cases h1 : op = 1
  ·rw [if_pos (by omega), if_pos h1]
  ·rw [if_neg (by omega), if_neg h1, show op + (0 - 1) = op - 1 from by omega]
 | one x a ih =>
  intro rest op k h hop
  have e := arS_1 h.1
  simp only [GT.flat, List.cons_append, sizeGo, e, List.length_cons]
  rw [if_neg (by omega), if_neg (by omega), show op + (1 - 1) = op from by omega, ih rest op (k + 1) h.2 hop]
  rw [show k + 1 + a.flat.length = k + (a.flat.length + 1) from by omega]
 | two x a b iha ihb =>
  intro rest op k h hop
  have e := arS_2 h.1
  simp only [GT.flat, List.cons_append, sizeGo, e, List.length_cons, List.length_append, List.append_assoc]
  rw [if_neg (by omega), if_neg (by omega), iha _ _ _ h.2.1 (by omega), if_neg (by omega), show op + (2 - 1) - 1 = op from by omega, ihb _ _ _ h.2.2 hop]
  rw [show k + 1 + a.flat.length + b.flat.length = k + (a.flat.length + b.flat.length + 1) from by omega]
theorem sizeN_tree (t : GT) (rest : List Nd) (h : t.ok) : sizeN (t.flat ++ rest) = t.flat.length := by
 unfold sizeN; rw [sizeGo_tree t rest 1 0 h (by omega), if_pos rfl]; omega
theorem trees_of (m : Nat) : ∀ (l : List Nd) (op : Nat) (k : Nat), l.length ≤ m → 1 ≤ op → sizeGo l op k ≠ 0 → ∃ ts : List GT, ts.length = op ∧ (∀ t ∈ ts, t.ok) ∧ ∃ rest, l = ts.flatMap GT.flat ++ rest ∧ sizeGo l op k = k + (ts.flatMap GT.flat).length := by
 induction m with
 | zero =>
  intro l op k hl hop h
  obtain rfl : l = [] := List.eq_nil_of_length_eq_zero (by omega)
  exact absurd rfl h
 | succ m ih =>
  intro l op k hl hop h
  cases l with
  | nil => exact absurd rfl h
  | cons x xs =>
   simp only [List.length_cons] at hl
   simp only [sizeGo] at h ⊢
   rcases arS_cases x.kind with ⟨hk, e⟩ | ⟨hk, e⟩ | ⟨hk, e⟩ | e
   ·rw [e] at h ⊢
    rw [if_neg (by omega)] at h ⊢
    by_cases h1 : op = 1
    ·subst h1
     rw [if_pos (by omega)] at h ⊢
     exact ⟨[.leaf x], rfl, by simpa [GT.ok] using hk, xs, by simp [GT.flat], by simp [GT.flat]⟩
    ·rw [if_neg (by omega)] at h ⊢
     rw [show (op : Int) + (0 - 1) = ((op - 1 : Nat) : Int) from by omega] at h ⊢
     obtain ⟨ts, h2, h3, rest, h4, h5⟩ := ih xs (op - 1) (k + 1) (by omega) (by omega) h
     refine ⟨.leaf x :: ts, by simp; omega, ?_, rest, by rw [h4]; simp [GT.flat], by rw [h5]; simp [GT.flat]; omega⟩
     intro t ht
     rw [List.mem_cons] at ht
     rcases ht with rfl | ht
     ·exact hk
     ·exact h3 t ht
   ·rw [e] at h ⊢
    rw [if_neg (by omega), if_neg (by omega), show (op : Int) + (1 - 1) = (op : Int) from by omega] at h ⊢
    obtain ⟨ts, h2, h3, rest, h4, h5⟩ := ih xs op (k + 1) (by omega) hop h
    match ts, h2, h3, h4, h5 with
    | t :: ts, h2, h3, h4, h5 =>
     refine ⟨.one x t :: ts, by simpa using h2, ?_, rest, by rw [h4]; simp [GT.flat], by rw [h5]; simp [GT.flat]; omega⟩
     intro q hq
     rw [List.mem_cons] at hq
     rcases hq with rfl | hq
     ·exact ⟨hk, h3 t (by simp)⟩
     ·exact h3 q (by simp [hq])
    | [], h2, _, _, _ => simp at h2; omega
   ·rw [e] at h ⊢
    rw [if_neg (by omega), if_neg (by omega), show (op : Int) + (2 - 1) = ((op + 1 : Nat) : Int) from by omega] at h ⊢
    obtain ⟨ts, h2, h3, rest, h4, h5⟩ := ih xs (op + 1) (k + 1) (by omega) (by omega) h
    match ts, h2, h3, h4, h5 with
    | t :: u :: ts, h2, h3, h4, h5 =>
     refine ⟨.two x t u :: ts, by simpa using h2, ?_, rest, by rw [h4]; simp [GT.flat], by rw [h5]; simp [GT.flat]; omega⟩
     intro q hq
     rw [List.mem_cons] at hq
     rcases hq with rfl | hq
     ·exact ⟨hk, h3 t (by simp), h3 u (by simp)⟩
     ·exact h3 q (by simp [hq])
    | [t], h2, _, _, _ => simp at h2; omega
    | [], h2, _, _, _ => simp at h2
   ·rw [e] at h; exact absurd (if_pos (by omega)) h
theorem sizeN_of {l : List Nd} (h : sizeN l ≠ 0) : ∃ t : GT, t.ok ∧ ∃ rest, l = t.flat ++ rest ∧ sizeN l = t.flat.length := by
 obtain ⟨ts, h1, h2, rest, h3, h4⟩ := trees_of l.length l 1 0 (Nat.le_refl _) (by omega) h
 match ts, h1 with
 | [t], _ => exact ⟨t, h2 t (by simp), rest, by simpa using h3, by unfold sizeN; simpa using h4⟩
theorem GT.inj {t u : GT} {r q : List Nd} (ht : t.ok) (hu : u.ok) (h : t.flat ++ r = u.flat ++ q) : t.flat = u.flat ∧ r = q := by
 have h1 := sizeN_tree t r ht
 rw [h, sizeN_tree u q hu] at h1
 exact List.append_inj h h1.symm
def nodeB (x : Nd) : Prop := (x.kind = 5 ∨ x.n = 0) ∧ 0 ≤ x.n ∧ x.n ≤ 1000000 ∧ (if x.kind = 1 then rightB x.p x.K = true else (x.p = [] ∧ x.K = 0))
def patT (p : List Cls) : ByteArray := (printS 8 0 p).getD ByteArray.empty
def br (b : Bool) (s : ByteArray) : ByteArray := if b then sgnS 1 ++ s ++ sgnS 2 else s
def isBin (x : Nd) : Bool := decide (x.kind = 2 ∨ x.kind = 3)
def isOr (x : Nd) : Bool := decide (x.kind = 3)
def leafT (x : Nd) : ByteArray := if 0 < x.K then patT x.p ++ (sgnS 7 ++ decS x.K.toNat) else patT x.p
def oneT (x : Nd) : ByteArray := if x.kind = 4 then sgnS 5 else sgnS 6 ++ decS x.n.toNat
def GT.text : GT → ByteArray
 | .leaf x => leafT x
 | .one x a => oneT x ++ br (isBin a.root) a.text
 | .two x a b => if x.kind = 2 then br (isOr a.root) a.text ++ blankS ++ sgnS 3 ++ blankS ++ br (isBin b.root) b.text
  else a.text ++ blankS ++ sgnS 4 ++ blankS ++ br (isOr b.root) b.text
abbrev T3 := Nat × Nat × List Cls
def Tok.key (t : Tok) : T3 := (t.kind, t.n, t.p)
def br3 (b : Bool) (l : List T3) : List T3 := if b then (1, 0, []) :: (l ++ [(2, 0, [])]) else l
def GT.right (t : GT) : Prop := t.ok ∧ ∀ x ∈ t.flat, nodeB x
theorem GT.right.one {x : Nd} {a : GT} (h : (GT.one x a).right) : a.right := ⟨h.1.2, fun y hy => h.2 y (by simp [GT.flat, hy])⟩
theorem GT.right.left {x : Nd} {a b : GT} (h : (GT.two x a b).right) : a.right := ⟨h.1.2.1, fun y hy => h.2 y (by simp [GT.flat, hy])⟩
theorem GT.right.right {x : Nd} {a b : GT} (h : (GT.two x a b).right) : b.right := ⟨h.1.2.2, fun y hy => h.2 y (by simp [GT.flat, hy])⟩
theorem GT.right.root {t : GT} (h : t.right) : nodeB t.root := h.2 _ (by obtain ⟨r, e⟩ := t.flat_head; rw [e]; simp)
theorem sgn_print (k : Nat) (h1 : 1 ≤ k) (h5 : k ≤ 5) : printS (k : Int) 0 [] = some (sgnS k) := by
 rw [printS_in (by omega), if_neg (by omega), if_neg (by simp), if_neg (by omega), if_pos rfl]
def More (u : ByteArray) (ks : List T3) : Prop := ∀ s l, TextRun s l → ∃ ts : List Tok, ts.map Tok.key = ks ∧ TextRun (s ++ u) (l ++ ts)
theorem More.app {u v : ByteArray} {ks js : List T3} (h : More u ks) (k : More v js) : More (u ++ v) (ks ++ js) := fun s l hs => by
 obtain ⟨ts, h1, h2⟩ := h s l hs
 obtain ⟨us, h3, h4⟩ := k _ _ h2
 exact ⟨ts ++ us, by rw [List.map_append, h1, h3], by rw [← ByteArray.append_assoc, ← List.append_assoc]; exact h4⟩
theorem More.blank : More blankS [] := fun s l hs => ⟨[], rfl, by rw [List.append_nil]; exact hs.blank⟩
theorem More.tok {kd n : Nat} {xs : List Cls} {u : ByteArray} (h : printS (kd : Int) (n : Int) xs = some u) : More u [(kd, n, xs)] := fun s l hs => ⟨[⟨kd, s.size, n, xs⟩], rfl, by
 have := TextRun.tok hs h
 rwa [Int.toNat_natCast, Int.toNat_natCast] at this⟩
theorem More.br {u : ByteArray} {ks : List T3} (h : More u ks) (b : Bool) : More (Go.Proofs.YtoelilejohfglaaGreat.br b u) (br3 b ks) := by
 cases b with
 | false => exact h
 | true =>
  have := ((More.tok (sgn_print 1 (by decide) (by decide))).app h).app (More.tok (sgn_print 2 (by decide) (by decide)))
  exact this
def takeT : Nat → List Nd → Option (GT × List Nd)
 | 0, _ => none
 | _ + 1, [] => none
 | f + 1, x :: xs =>
  if arS x.kind = 0 then some (.leaf x, xs)
  else if arS x.kind = 1 then (match takeT f xs with
   | some (a, r) => some (.one x a, r)
   | none => none)
  else if arS x.kind = 2 then (match takeT f xs with
   | some (a, r) => (match takeT f r with
    | some (b, q) => some (.two x a b, q)
    | none => none)
   | none => none)
  else none
theorem takeT_flat (t : GT) : ∀ (f : Nat) (r : List Nd), t.ok → t.flat.length ≤ f → takeT f (t.flat ++ r) = some (t, r) := by
 induction t with
 | leaf x =>
  intro f r h hf
  cases f with
  | zero => simp [GT.flat] at hf
  | succ f => simp only [GT.flat, List.cons_append, List.nil_append, takeT]; rw [if_pos (arS_0 h)]
 | one x a ih =>
  intro f r h hf
  cases f with
  | zero => simp [GT.flat] at hf
  | succ f =>
   simp only [GT.flat, List.length_cons] at hf
   simp only [GT.flat, List.cons_append, takeT]
   rw [if_neg (by rw [arS_1 h.1]; omega), if_pos (arS_1 h.1), ih f r h.2 (by omega)]
 | two x a b iha ihb =>
  intro f r h hf
  cases f with
  | zero => simp [GT.flat] at hf
  | succ f =>
   simp only [GT.flat, List.length_cons, List.length_append] at hf
   simp only [GT.flat, List.cons_append, takeT, List.append_assoc]
   rw [if_neg (by rw [arS_2 h.1]; omega), if_neg (by rw [arS_2 h.1]; omega), if_pos (arS_2 h.1), iha f _ h.2.1 (by omega)]
   simp only []
   rw [ihb f r h.2.2 (by omega)]
theorem takeT_some : ∀ (f : Nat) (L : List Nd) (t : GT) (r : List Nd), takeT f L = some (t, r) → t.ok ∧ L = t.flat ++ r := by
 intro f
 induction f with
 | zero => intro L t r h; cases h
 | succ f ih =>
  intro L t r h
  cases L with
  | nil => cases h
  | cons x xs =>
   simp only [takeT] at h
   rcases arS_cases x.kind with ⟨hk, e⟩ | ⟨hk, e⟩ | ⟨hk, e⟩ | e
   ·rw [if_pos e] at h
    injection h with h; injection h with h1 h2; subst h1 h2
    exact ⟨hk, rfl⟩
   ·rw [if_neg (by omega), if_pos e] at h
    cases h1 : takeT f xs with
    | none => rw [h1] at h; cases h
    | some p =>
     obtain ⟨a, q⟩ := p
     rw [h1] at h
     injection h with h; injection h with h2 h3; subst h2 h3
     have := ih _ _ _ h1
     exact ⟨⟨hk, this.1⟩, by rw [this.2]; rfl⟩
   ·rw [if_neg (by omega), if_neg (by omega), if_pos e] at h
    cases h1 : takeT f xs with
    | none => rw [h1] at h; cases h
    | some p =>
     obtain ⟨a, q⟩ := p
     rw [h1] at h
     simp only [] at h
     cases h2 : takeT f q with
     | none => rw [h2] at h; cases h
     | some p2 =>
      obtain ⟨b, q2⟩ := p2
      rw [h2] at h
      injection h with h; injection h with h3 h4; subst h3 h4
      have i1 := ih _ _ _ h1
      have i2 := ih _ _ _ h2
      exact ⟨⟨hk, i1.1, i2.1⟩, by rw [i1.2, i2.2]; simp [GT.flat]⟩
   ·rw [if_neg (by omega), if_neg (by omega), if_neg (by omega)] at h; cases h
def depthN (L : List Nd) : Nat := match takeT L.length L with
 | some (t, []) => t.deep
 | _ => 0
theorem depthN_tree {t : GT} (h : t.ok) : depthN t.flat = t.deep := by
 have := takeT_flat t t.flat.length [] h (Nat.le_refl _)
 rw [List.append_nil] at this
 unfold depthN; rw [this]
theorem depthN_pos {L : List Nd} (h : depthN L ≠ 0) : ∃ t : GT, t.ok ∧ L = t.flat := by
 unfold depthN at h
 cases h1 : takeT L.length L with
 | none => rw [h1] at h; exact absurd rfl h
 | some p =>
  obtain ⟨t, r⟩ := p
  have := takeT_some _ _ _ _ h1
  cases r with
  | nil => exact ⟨t, this.1, by rw [← List.append_nil t.flat]; exact this.2⟩
  | cons y ys => rw [h1] at h; exact absurd rfl h
theorem size_depth (L : List Nd) : (L ≠ [] ∧ sizeN L = L.length ∧ ∃ t : GT, t.ok ∧ L = t.flat) ∨ ((L = [] ∨ sizeN L ≠ L.length) ∧ depthN L = 0) := by
 by_cases hd : depthN L = 0
 ·right
  refine ⟨?_, hd⟩
  by_cases h0 : L = []
  ·exact .inl h0
  ·right
   intro e
   have hz : sizeN L ≠ 0 := by rw [e]; exact fun h => h0 (List.eq_nil_of_length_eq_zero h)
   obtain ⟨t, ht, r, hr, hs⟩ := sizeN_of hz
   have hrl : r = [] := by
    have := congrArg List.length hr
    rw [List.length_append] at this
    exact List.eq_nil_of_length_eq_zero (by omega)
   subst hrl
   rw [List.append_nil] at hr
   have := depthN_tree ht
   rw [← hr, hd] at this
   have := t.deep_pos
   omega
 ·left
  obtain ⟨t, ht, e⟩ := depthN_pos hd
  refine ⟨?_, ?_, t, ht, e⟩
  ·rw [e]; intro h; have := t.flat_pos; rw [h] at this; simp at this
  ·have := sizeN_tree t [] ht
   rw [List.append_nil] at this
   rw [e]; exact this
def GT.kids : GT → List GT
 | .leaf _ => []
 | .one _ a => [a]
 | .two _ a b => [a, b]
def maxD (ts : List GT) : Nat := ts.foldl (fun m t => max m t.deep) 0
theorem maxD_snoc (ts : List GT) (t : GT) : maxD (ts ++ [t]) = max (maxD ts) t.deep := by unfold maxD; rw [List.foldl_append]; rfl
theorem GT.kids_flat (t : GT) : t.flat = t.root :: t.kids.flatMap GT.flat := by cases t <;> simp [GT.flat, GT.kids, GT.root]
theorem GT.kids_deep (t : GT) : t.deep = maxD t.kids + 1 := by cases t <;> simp [GT.deep, GT.kids, maxD]
theorem GT.kids_ar {t : GT} (h : t.ok) : arS t.root.kind = t.kids.length := by
 cases t with
 | leaf x => exact arS_0 h
 | one x a => exact arS_1 h.1
 | two x a b => exact arS_2 h.1
theorem GT.kids_ok {t : GT} (h : t.ok) : ∀ k ∈ t.kids, k.ok := by
 cases t with
 | leaf x => intro k hk; simp [GT.kids] at hk
 | one x a => intro k hk; simp [GT.kids] at hk; subst hk; exact h.2
 | two x a b => intro k hk; simp [GT.kids] at hk; rcases hk with rfl | rfl; exact h.2.1; exact h.2.2
theorem GT.kids_less {t : GT} : ∀ k ∈ t.kids, k.flat.length < t.flat.length := by
 cases t with
 | leaf x => intro k hk; simp [GT.kids] at hk
 | one x a => intro k hk; simp [GT.kids] at hk; subst hk; simp [GT.flat]
 | two x a b => intro k hk; simp [GT.kids] at hk; rcases hk with rfl | rfl <;> simp [GT.flat] <;> omega
def nodeD (x : Nd) : Bool := if x.kind ≠ 5 ∧ x.n ≠ 0 then false else if x.n < 0 then false else if 1000000 < x.n then false else if x.kind = 1 then rightB x.p x.K else (decide (x.p.length = 0) && decide (x.K = 0))
theorem nodeD_iff (x : Nd) : nodeD x = true ↔ nodeB x := by
 unfold nodeD nodeB
 by_cases h1 : x.kind ≠ 5 ∧ x.n ≠ 0
 ·rw [if_pos h1]; simp only [Bool.false_eq_true, false_iff]; rintro ⟨h, _⟩; omega
 ·rw [if_neg h1]
  by_cases h2 : x.n < 0
  ·rw [if_pos h2]; simp only [Bool.false_eq_true, false_iff]; rintro ⟨_, h, _⟩; omega
  ·rw [if_neg h2]
   by_cases h3 : 1000000 < x.n
   ·rw [if_pos h3]; simp only [Bool.false_eq_true, false_iff]; rintro ⟨_, _, h, _⟩; omega
   ·rw [if_neg h3]
    by_cases h4 : x.kind = 1
    ·rw [if_pos h4, if_pos h4]; exact ⟨fun h => ⟨by omega, by omega, by omega, h⟩, fun h => h.2.2.2⟩
    ·rw [if_neg h4, if_neg h4]
     simp only [Bool.and_eq_true, decide_eq_true_eq, List.length_eq_zero_iff]
     exact ⟨fun h => ⟨by omega, by omega, by omega, h⟩, fun h => h.2.2.2⟩
def rightN (L : List Nd) : Bool := decide (L.length ≤ 64) && L.all nodeD && decide (1 ≤ depthN L) && decide (depthN L ≤ 16)
def tk (L : List Nd) : Option (GT × List Nd) := takeT L.length L
theorem takeT_fuel {f : Nat} {L : List Nd} (h : L.length ≤ f) : takeT f L = tk L := by
 unfold tk
 cases h1 : takeT L.length L with
 | some p =>
  obtain ⟨t, r⟩ := p
  have := takeT_some _ _ _ _ h1
  rw [this.2]
  exact takeT_flat t f r this.1 (by have := congrArg List.length this.2; rw [List.length_append] at this; omega)
 | none =>
  cases h2 : takeT f L with
  | none => rfl
  | some p =>
   obtain ⟨t, r⟩ := p
   have := takeT_some _ _ _ _ h2
   rw [this.2, takeT_flat t _ r this.1 (by rw [List.length_append]; omega)] at h1
   cases h1
def takeN : Nat → List Nd → Option (List GT × List Nd)
 | 0, l => some ([], l)
 | j + 1, l => match tk l with
  | none => none
  | some (a, r) => match takeN j r with
   | none => none
   | some (ts, q) => some (a :: ts, q)
theorem takeN_zero (l : List Nd) : takeN 0 l = some ([], l) := rfl
theorem takeN_succ (j : Nat) (l : List Nd) : takeN (j + 1) l = match tk l with
  | none => none
  | some (a, r) => match takeN j r with
   | none => none
   | some (ts, q) => some (a :: ts, q) := rfl
def mkT (x : Nd) : List GT → GT
 | [] => .leaf x
 | [a] => .one x a
 | a :: b :: _ => .two x a b
theorem takeN_len : ∀ (j : Nat) (l : List Nd) (ts : List GT) (q : List Nd), takeN j l = some (ts, q) → ts.length = j
 | 0, l, ts, q, h => by injection h with h; injection h with h1 h2; subst h1; rfl
 | j + 1, l, ts, q, h => by
  unfold takeN at h
  cases h1 : tk l with
  | none => rw [h1] at h; cases h
  | some p =>
   obtain ⟨a, r⟩ := p
   rw [h1] at h
   simp only [] at h
   cases h2 : takeN j r with
   | none => rw [h2] at h; cases h
   | some p2 =>
    obtain ⟨us, s⟩ := p2
    rw [h2] at h
    injection h with h; injection h with h3 h4; subst h3
    rw [List.length_cons, takeN_len j r us s h2]
theorem tk_cons (x : Nd) (xs : List Nd) (h : 0 ≤ arS x.kind) : tk (x :: xs) = (match takeN (arS x.kind).toNat xs with
  | none => none
  | some (ts, r) => some (mkT x ts, r)) := by
 unfold tk
 rw [List.length_cons]
 simp only [takeT]
 rcases arS_cases x.kind with ⟨hk, e⟩ | ⟨hk, e⟩ | ⟨hk, e⟩ | e
 ·rw [if_pos e, e]; rfl
 ·rw [if_neg (by omega), if_pos e, e, takeT_fuel (Nat.le_refl _)]
  show _ = (match takeN 1 xs with
   | none => none
   | some (ts, r) => some (mkT x ts, r))
  unfold takeN
  cases tk xs with
  | none => rfl
  | some p => obtain ⟨a, r⟩ := p; rfl
 ·rw [if_neg (by omega), if_neg (by omega), if_pos e, e, takeT_fuel (Nat.le_refl _)]
  show _ = (match takeN 2 xs with
   | none => none
   | some (ts, r) => some (mkT x ts, r))
  unfold takeN
  cases h1 : tk xs with
  | none => rfl
  | some p =>
   obtain ⟨a, r⟩ := p
   have := takeT_some _ _ _ _ h1
   have hl := congrArg List.length this.2
   rw [List.length_append] at hl
   simp only []
   rw [takeT_fuel (show r.length ≤ xs.length by omega)]
   unfold takeN
   cases tk r with
   | none => rfl
   | some p2 => obtain ⟨b, q⟩ := p2; rfl
 ·omega
theorem tk_no (x : Nd) (xs : List Nd) (h : arS x.kind < 0) : tk (x :: xs) = none := by
 unfold tk
 rw [List.length_cons]
 simp only [takeT]
 rw [if_neg (by omega), if_neg (by omega), if_neg (by omega)]
theorem mkT_flat {x : Nd} {ts : List GT} (h : ts.length ≤ 2) : (mkT x ts).flat = x :: ts.flatMap GT.flat := by
 match ts, h with
 | [], _ => rfl
 | [a], _ => simp [mkT, GT.flat]
 | [a, b], _ => simp [mkT, GT.flat]
theorem mkT_deep {x : Nd} {ts : List GT} (h : ts.length ≤ 2) : (mkT x ts).deep = maxD ts + 1 := by
 match ts, h with
 | [], _ => rfl
 | [a], _ => simp [mkT, GT.deep, maxD]
 | [a, b], _ => simp [mkT, GT.deep, maxD]
def walkV (L : List Nd) (a : Nat) : Int × Int := match tk (L.drop a) with
 | some (t, _) => (((a + t.flat.length : Nat) : Int), ((t.deep : Nat) : Int))
 | none => (-1, 0)
theorem tk_some {L : List Nd} {t : GT} {r : List Nd} (h : tk L = some (t, r)) : t.ok ∧ L = t.flat ++ r := takeT_some _ _ _ _ h
end Go.Proofs.YtoelilejohfglaaGreat
