/- Joined texts: TokA TokB TokC TokD TokE TokF TokG0 TokG TokH TokI TokP TokQ. -/
import Derived.Test.YtoelilejohfglaaGreatRefH
import Derived.Deep.QuietTactic
import Derived.BigQuiet
import Derived.Lib.Strings
import Derived.Lib.Slices
import Derived.Lib.Walk
import Derived.Lib.Bytealg
import Derived.Lib.IndexAny
import Derived.Deep.RegionHeld3
import Derived.Deep.DeepFit
import Derived.Outline
import Derived.IntWalk
import Derived.StillTailTactics
import Derived.Test.YtoelilejohfglaaGreatBunB
import Derived.Laws.Strings
namespace Go.Proofs.YtoelilejohfglaaGreat
open Go.RowKit
set_option linter.unusedVariables false
set_option linter.unusedSimpArgs false
def signB (b : Nat) : Bool := decide (32 ≤ (b : Int)) && decide ((b : Int) ≤ 126)
def hexV (b : Nat) : Int := if 48 ≤ (b : Int) ∧ (b : Int) ≤ 57 then (b : Int) - 48 else if 97 ≤ (b : Int) ∧ (b : Int) ≤ 102 then (b : Int) - 87 else -1
def inS (s : ByteArray) (b : Nat) : Bool := s.data.toList.any fun x => x.toNat == b
def byteAt (s : ByteArray) (i : Nat) : Nat := if h : i < s.size then s[i].toNat else 0
inductive Rd (α : Type) where
 | ok (v : α) (next : Nat)
 | bad (at_ : Nat) (e : Int)
def escSet : ByteArray := ⟨#[92, 34, 63, 91, 93, 45, 94]⟩
def escS (s : ByteArray) (a : Nat) : Rd Nat :=
 if a + 1 < s.size ∧ inS escSet (byteAt s (a + 1)) = true then .ok (byteAt s (a + 1)) (a + 2)
 else if a + 3 < s.size ∧ byteAt s (a + 1) = 120 ∧ 0 ≤ hexV (byteAt s (a + 2)) ∧ 0 ≤ hexV (byteAt s (a + 3)) then .ok ((16 * hexV (byteAt s (a + 2)) + hexV (byteAt s (a + 3))).toNat) (a + 4)
 else .bad a 131
theorem hexV_le (b : Nat) : hexV b ≤ 15 := by
 unfold hexV; split
 ·omega
 ·split <;> omega
theorem byteAt_lt (s : ByteArray) (i : Nat) : byteAt s i < 256 := by
 unfold byteAt; split
 ·exact UInt8.toNat_lt _
 ·omega
def Rd.at_ {α : Type} : Rd α → Nat
 | .ok _ nx => nx
 | .bad p _ => p
def Rd.no {α : Type} : Rd α → Int
 | .ok _ _ => 0
 | .bad _ e => e
def Rd.val {α : Type} (R : Rd α) (d : α) : α := match R with
 | .ok v _ => v
 | .bad _ _ => d
def idxV (s : ByteArray) (b : Nat) : Int := Lib.indexByte s.data.toList b.toUInt8
def hexs : ByteArray := ⟨#[48, 49, 50, 51, 52, 53, 54, 55, 56, 57, 97, 98, 99, 100, 101, 102]⟩
def oneS (ap : ByteArray) (no : Int) (s : ByteArray) (a : Nat) : Rd Nat :=
 if byteAt s a = 92 then escS s a
 else if signB (byteAt s a) = true ∧ inS ap (byteAt s a) = false then .ok (byteAt s a) (a + 1) else .bad a no
def insideSet : ByteArray := ⟨#[92, 34, 91, 93, 45, 94]⟩
def itemS (s : ByteArray) (a : Nat) : Rd Nat := if a < s.size then oneS insideSet 132 s a else .bad s.size 133
def Rd.map {α β : Type} (f : α → β) : Rd α → Rd β
 | .ok v nx => .ok (f v) nx
 | .bad p e => .bad p e
inductive ClassRun (s : ByteArray) : Nat → Cls → Nat → Rd (Cls × Nat) → Prop
 | stop {a : Nat} {x : Cls} {n : Nat} (h : a < s.size) (hb : byteAt s a = 93) : ClassRun s a x n (.ok (x, n) (a + 1))
 | bad1 {a : Nat} {x : Cls} {n p : Nat} {e : Int} (h : ¬ (a < s.size ∧ byteAt s a = 93)) (h1 : itemS s a = .bad p e) : ClassRun s a x n (.bad p e)
 | one {a : Nat} {x : Cls} {n v b : Nat} {R : Rd (Cls × Nat)} (h : ¬ (a < s.size ∧ byteAt s a = 93)) (h1 : itemS s a = .ok v b) (h2 : ¬ (b < s.size ∧ byteAt s b = 45))
   (k : ClassRun s b (x ||| rangeC v v) (n + 1) R) : ClassRun s a x n R
 | bad2 {a : Nat} {x : Cls} {n v b p : Nat} {e : Int} (h : ¬ (a < s.size ∧ byteAt s a = 93)) (h1 : itemS s a = .ok v b) (h2 : b < s.size ∧ byteAt s b = 45)
   (h3 : itemS s (b + 1) = .bad p e) : ClassRun s a x n (.bad p e)
 | less {a : Nat} {x : Cls} {n v b u d : Nat} (h : ¬ (a < s.size ∧ byteAt s a = 93)) (h1 : itemS s a = .ok v b) (h2 : b < s.size ∧ byteAt s b = 45)
   (h3 : itemS s (b + 1) = .ok u d) (h4 : u < v) : ClassRun s a x n (.bad b 132)
 | two {a : Nat} {x : Cls} {n v b u d : Nat} {R : Rd (Cls × Nat)} (h : ¬ (a < s.size ∧ byteAt s a = 93)) (h1 : itemS s a = .ok v b) (h2 : b < s.size ∧ byteAt s b = 45)
   (h3 : itemS s (b + 1) = .ok u d) (h4 : ¬ u < v) (k : ClassRun s d (x ||| rangeC v u) (n + 1) R) : ClassRun s a x n R
def negS (s : ByteArray) (op : Nat) : Bool := decide (op + 1 < s.size ∧ byteAt s (op + 1) = 94)
def beginS (s : ByteArray) (op : Nat) : Nat := if negS s op = true then op + 2 else op + 1
def finC (neg : Bool) (op : Nat) : Rd (Cls × Nat) → Rd Cls
 | .bad p e => .bad p e
 | .ok (x, n) b => if n = 0 ∨ (if neg then ~~~ x else x) = 0 then .bad op 132 else .ok (if neg then ~~~ x else x) b
inductive ElemRd (s : ByteArray) (a : Nat) : Rd Cls → Prop
 | full (h : byteAt s a = 63) : ElemRd s a (.ok fullC (a + 1))
 | cls {R : Rd (Cls × Nat)} (h : byteAt s a = 91) (k : ClassRun s (beginS s a) 0 0 R) : ElemRd s a (finC (negS s a) a R)
 | byte (h : byteAt s a ≠ 63) (h' : byteAt s a ≠ 91) : ElemRd s a ((oneS ByteArray.empty 130 s a).map fun v => BitVec.twoPow 256 v)
inductive PatRun (s : ByteArray) : Nat → List Cls → Rd (List Cls) → Prop
 | stop {a : Nat} {xs : List Cls} (h : s.size ≤ a) : PatRun s a xs (.bad s.size 133)
 | close {a : Nat} {xs : List Cls} (h : a < s.size) (hb : byteAt s a = 34) (h1 : 0 < xs.length) : PatRun s a xs (.ok xs (a + 1))
 | empty {a : Nat} {xs : List Cls} (h : a < s.size) (hb : byteAt s a = 34) (h1 : xs.length = 0) : PatRun s a xs (.bad a 135)
 | long {a : Nat} {xs : List Cls} (h : a < s.size) (hb : byteAt s a ≠ 34) (h1 : xs.length = 64) : PatRun s a xs (.bad a 135)
 | bad {a : Nat} {xs : List Cls} {p : Nat} {e : Int} (h : a < s.size) (hb : byteAt s a ≠ 34) (h1 : xs.length ≠ 64) (k : ElemRd s a (.bad p e)) : PatRun s a xs (.bad p e)
 | step {a : Nat} {xs : List Cls} {x : Cls} {b : Nat} {R : Rd (List Cls)} (h : a < s.size) (hb : byteAt s a ≠ 34) (h1 : xs.length ≠ 64) (k : ElemRd s a (.ok x b)) (r : PatRun s b (xs ++ [x]) R) : PatRun s a xs R
def isDig (s : ByteArray) (k : Nat) : Prop := k < s.size ∧ 48 ≤ byteAt s k ∧ byteAt s k ≤ 57
def valD (s : ByteArray) (a : Nat) : Nat → Nat
 | 0 => 0
 | j + 1 => 10 * valD s a j + (byteAt s (a + j) - 48)
structure DigRun (s : ByteArray) (a m : Nat) : Prop where
 yes : ∀ j, j < m → isDig s (a + j)
 no : ¬ isDig s (a + m)
def numS (s : ByteArray) (a m : Nat) : Rd Nat := if m = 0 ∨ (byteAt s a = 48 ∧ 1 < m) ∨ 1000000 < valD s a m then .bad a 134 else .ok (valD s a m) (a + m)
structure Tok where
 kind : Nat
 at_ : Nat
 n : Nat
 p : List Cls
def signSet : ByteArray := ⟨#[40, 41, 38, 124, 33, 62, 126]⟩
def kindV (b : Nat) : Int := idxV signSet b + 1
inductive TokRd (s : ByteArray) (a : Nat) : Rd Tok → Prop
 | pat {R : Rd (List Cls)} (h : byteAt s a = 34) (k : PatRun s (a + 1) [] R) : TokRd s a (R.map fun p => ⟨8, a, 0, p⟩)
 | none (h : byteAt s a ≠ 34) (h1 : kindV (byteAt s a) < 1) : TokRd s a (.bad a 130)
 | sign {k : Nat} (h : byteAt s a ≠ 34) (h1 : kindV (byteAt s a) = k) (h2 : 1 ≤ k) (h3 : k < 6) : TokRd s a (.ok ⟨k, a, 0, []⟩ (a + 1))
 | num {k m : Nat} (h : byteAt s a ≠ 34) (h1 : kindV (byteAt s a) = k) (h2 : 6 ≤ k) (h3 : DigRun s (a + 1) m) : TokRd s a ((numS s (a + 1) m).map fun n => ⟨k, a, n, []⟩)
inductive LexRun (s : ByteArray) : Nat → List Tok → Rd (List Tok) → Prop
 | stop {a : Nat} {l : List Tok} (h : s.size ≤ a) : LexRun s a l (.ok l s.size)
 | blank {a : Nat} {l : List Tok} {R : Rd (List Tok)} (h : a < s.size) (hb : byteAt s a = 32) (k : LexRun s (a + 1) l R) : LexRun s a l R
 | bad {a : Nat} {l : List Tok} {p : Nat} {e : Int} (h : a < s.size) (hb : byteAt s a ≠ 32) (k : TokRd s a (.bad p e)) : LexRun s a l (.bad p e)
 | step {a : Nat} {l : List Tok} {t : Tok} {b : Nat} {R : Rd (List Tok)} (h : a < s.size) (hb : byteAt s a ≠ 32) (k : TokRd s a (.ok t b)) (r : LexRun s b (l ++ [t]) R) : LexRun s a l R
theorem escS_ok {s : ByteArray} {a v b : Nat} (h : escS s a = .ok v b) : a < b ∧ b ≤ s.size ∧ v < 256 := by
 unfold escS at h
 split at h
 ·rename_i h1; injection h with h2 h3; have := byteAt_lt s (a + 1); omega
 ·split at h
  ·rename_i h1
   have u2 := hexV_le (byteAt s (a + 2))
   have u3 := hexV_le (byteAt s (a + 3))
   injection h with h2 h3; omega
  ·cases h
theorem oneS_ok {ap : ByteArray} {no : Int} {s : ByteArray} {a v b : Nat} (h : oneS ap no s a = .ok v b) (ha : a < s.size) : a < b ∧ b ≤ s.size ∧ v < 256 := by
 unfold oneS at h
 split at h
 ·exact escS_ok h
 ·split at h
  ·injection h with h2 h3; have := byteAt_lt s a; omega
  ·cases h
theorem itemS_ok {s : ByteArray} {a v b : Nat} (h : itemS s a = .ok v b) : a < b ∧ b ≤ s.size ∧ v < 256 := by
 unfold itemS at h
 split at h
 ·rename_i ha; exact oneS_ok h ha
 ·cases h
theorem escS_bad {s : ByteArray} {a p : Nat} {e : Int} (h : escS s a = .bad p e) : p = a ∧ e = 131 := by
 unfold escS at h
 split at h
 ·cases h
 ·split at h
  ·cases h
  ·injection h with h1 h2; exact ⟨h1.symm, h2.symm⟩
theorem oneS_bad {ap : ByteArray} {no : Int} {s : ByteArray} {a p : Nat} {e : Int} (h : oneS ap no s a = .bad p e) (hn : no ≠ 0) : p = a ∧ e ≠ 0 := by
 unfold oneS at h
 split at h
 ·have := escS_bad h; exact ⟨this.1, by rw [this.2]; decide⟩
 ·split at h
  ·cases h
  ·injection h with h1 h2; exact ⟨h1.symm, fun e => hn (h2.trans e)⟩
theorem itemS_bad {s : ByteArray} {a p : Nat} {e : Int} (h : itemS s a = .bad p e) (ha : a ≤ s.size) : p = a ∧ e ≠ 0 := by
 unfold itemS at h
 split at h
 ·exact oneS_bad h (by decide)
 ·injection h with h1 h2; exact ⟨by omega, by omega⟩
end Go.Proofs.YtoelilejohfglaaGreat
