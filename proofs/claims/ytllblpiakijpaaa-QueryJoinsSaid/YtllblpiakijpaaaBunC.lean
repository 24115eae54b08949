/- Joined texts: TokA TokB TokC TokD TokE TokF TokG0 TokG TokH TokI TokP TokQ. -/
import Derived.Test.YtllblpiakijpaaaBunB
import Derived.Deep.QuietTactic
import Derived.BigQuiet
import Derived.Lib.Strings
import Derived.Lib.Slices
import Derived.Lib.Walk
import Derived.Lib.Bytealg
import Derived.Lib.IndexAny
import Derived.Deep.RegionHeld3
import Derived.Deep.DeepFit
import Derived.Outline
import Derived.IntWalk
import Derived.StillTailTactics
import Derived.Laws.Strings
/- Layer 13: small functions of bytes: sign, hex, in. -/
namespace Go.Proofs.Ytllblpiakijpaaa
open Go.RowKit
set_option linter.unusedVariables false

def signB (b : Nat) : Bool := decide (32 ≤ (b : Int)) && decide ((b : Int) ≤ 126)
def hexV (b : Nat) : Int := if 48 ≤ (b : Int) ∧ (b : Int) ≤ 57 then (b : Int) - 48 else if 97 ≤ (b : Int) ∧ (b : Int) ≤ 102 then (b : Int) - 87 else -1
def inS (s : ByteArray) (b : Nat) : Bool := s.data.toList.any fun x => x.toNat == b
def inTo (s : ByteArray) (b k : Nat) : Bool := (s.data.toList.take k).any fun x => x.toNat == b
theorem inTo_succ (s : ByteArray) (b k : Nat) (h : k < s.size) : inTo s b (k + 1) = (inTo s b k || s[k].toNat == b) := by
  unfold inTo
  rw [List.take_succ_eq_append_getElem (by simpa using h), List.any_append]
  simp; rfl
theorem inTo_all (s : ByteArray) (b k : Nat) (h : s.size ≤ k) : inTo s b k = inS s b := by
  unfold inTo inS; rw [List.take_of_length_le (by simpa using h)]
theorem inS_hit (s : ByteArray) (b k : Nat) (h : k < s.size) (e : s[k].toNat = b) : inS s b = true := by
  unfold inS
  rw [List.any_eq_true]
  exact ⟨s[k], by simp [ByteArray.getElem_eq_getElem_data], by simp [e]⟩

theorem tokSign_any (b : Nat) (w : World) (hb : (b : Int) ≤ 255) :
    Calls Try.prog 106 #[.int .u8 b] w fun e w' => e = .returned (.bool (signB b)) ∧ w' = w := by
  have h : (32 ≤ (b : Int) ∧ (b : Int) ≤ 126) ∨ ¬ (32 ≤ (b : Int)) ∨ ¬ ((b : Int) ≤ 126) := by omega
  rcases h with ⟨h1, h2⟩ | h1 | h1
  all_goals
    go_enter Try.func106, Try.ntmps106
    go_wp2
    go_ret
    refine ⟨?_, rfl⟩
    unfold signB
    refine congrArg (fun r => Ending.returned (.bool r)) ?_
    simp; omega
theorem refSign_any (b : Nat) (w : World) (hb : (b : Int) ≤ 255) :
    Calls Try.prog 111 #[.int .u8 b] w fun e w' => e = .returned (.bool (signB b)) ∧ w' = w := by
  have h : (32 ≤ (b : Int) ∧ (b : Int) ≤ 126) ∨ ¬ (32 ≤ (b : Int)) ∨ ¬ ((b : Int) ≤ 126) := by omega
  rcases h with ⟨h1, h2⟩ | h1 | h1
  all_goals
    go_enter Try.func111, Try.ntmps111
    go_wp2
    go_ret
    refine ⟨?_, rfl⟩
    unfold signB
    refine congrArg (fun r => Ending.returned (.bool r)) ?_
    simp; omega
theorem refHex_any (b : Nat) (w : World) (hb : (b : Int) ≤ 255) :
    Calls Try.prog 121 #[.int .u8 b] w fun e w' => e = .returned (.int .i64 (hexV b)) ∧ w' = w := by
  have h : (48 ≤ (b : Int) ∧ (b : Int) ≤ 57) ∨ (97 ≤ (b : Int) ∧ (b : Int) ≤ 102) ∨ (b : Int) < 48 ∨ (57 < (b : Int) ∧ (b : Int) < 97) ∨ 102 < (b : Int) := by omega
  have hz : hexV b = if 48 ≤ (b : Int) ∧ (b : Int) ≤ 57 then (b : Int) - 48 else if 97 ≤ (b : Int) ∧ (b : Int) ≤ 102 then (b : Int) - 87 else -1 := rfl
  rcases h with ⟨h1, h2⟩ | ⟨h1, h2⟩ | h1 | ⟨h1, h2⟩ | h1
  · rw [if_pos ⟨h1, h2⟩] at hz
    have hz := hid hz
    go_enter Try.func121, Try.ntmps121
    go_wp2
    go_ret
    exact ⟨by first | (rw [hz.out]; rfl) | rfl, rfl⟩
  · rw [if_neg (by omega), if_pos ⟨h1, h2⟩] at hz
    have hz := hid hz
    go_enter Try.func121, Try.ntmps121
    go_wp2
    go_ret
    exact ⟨by first | (rw [hz.out]; rfl) | rfl, rfl⟩
  all_goals
    rw [if_neg (by omega), if_neg (by omega)] at hz
    have hz := hid hz
    go_enter Try.func121, Try.ntmps121
    go_wp2
    go_ret
    exact ⟨by first | (rw [hz.out]; rfl) | rfl, rfl⟩

theorem refIn_any (s : ByteArray) (b : Nat) (w : World) (hb : (b : Int) ≤ 255) (hs : s.size ≤ 9223372036854775807) :
    Calls Try.prog 117 #[.string s, .int .u8 b] w fun e w' => e = .returned (.bool (inS s b)) ∧ w' = w := by
  go_enter Try.func117, Try.ntmps117
  go_wp2
  go_loop [5] (fun i => ∃ k : Nat, k ≤ s.size ∧ i = .int .i64 k ∧ Hid (inTo s b k = false)) (fun i => s.size - (intOf i).toNat)
  case atStart => exact ⟨0, Nat.zero_le _, rfl, hid rfl⟩
  case round =>
    obtain ⟨k, hk, rfl, hin⟩ := hrel
    by_cases hlt : k < s.size
    · have hsn := hid (inTo_succ s b k hlt)
      by_cases he : s[k].toNat = b
      · have hd : (((s[k].toNat : Nat) : Int) == (b : Int)) = true := beq_iff_eq.2 (by omega)
        have hh := hid (inS_hit s b k hlt he)
        have he := hid he
        go_wp2
        go_ret
        exact ⟨by rw [hh.out]; rfl, rfl⟩
      · have hd : (((s[k].toNat : Nat) : Int) == (b : Int)) = false := by rw [beq_eq_false_iff_ne]; omega
        have hx := hid (show inTo s b (k + 1) = false from by rw [hsn.out, hin.out]; simpa using he)
        clear he
        go_wp2
        go_round
        case rel => exact ⟨k + 1, by omega, by go_num, hx⟩
        case measure => simp [intOf]; omega
    · have hh := hid (inTo_all s b k (by omega))
      go_wp2
      go_ret
      exact ⟨by rw [← hh.out, hin.out]; rfl, rfl⟩
end Go.Proofs.Ytllblpiakijpaaa

/- Layer 13: the scanner: fails, end, has. -/
namespace Go.Proofs.Ytllblpiakijpaaa
open Go.RowKit
set_option linter.unusedVariables false

def cellsS (s : ByteArray) (at_ no : Int) : Array Value := #[.string s, .int .i64 at_, .int .i64 no]
abbrev SBox (w : World) (b : Nat) (s : ByteArray) (at_ no : Int) : Prop := Blk w b (cellsS s at_ no) 74
structure SAt (w : World) (b : Nat) (s : ByteArray) (at_ no : Int) : Prop where
  r0 : w.cell? ⟨b, 0, none⟩ = some (.string s)
  r1 : w.cell? ⟨b, 1, none⟩ = some (.int .i64 at_)
  r2 : w.cell? ⟨b, 2, none⟩ = some (.int .i64 no)
  f0 : w.frozen? ⟨b, 0, none⟩ = false
  f1 : w.frozen? ⟨b, 1, none⟩ = false
  f2 : w.frozen? ⟨b, 2, none⟩ = false
  lt : b < w.heap.size
theorem SBox.at_ {w : World} {b : Nat} {s : ByteArray} {a no : Int} (h : SBox w b s a no) : SAt w b s a no :=
  ⟨h.cell 0 rfl, h.cell 1 rfl, h.cell 2 rfl, h.free 0, h.free 1, h.free 2, h.lt⟩
theorem SBox.putAt {w : World} {b : Nat} {s : ByteArray} {a no : Int} (h : SBox w b s a no) (x : Int) : SBox (w.setCell ⟨b, 1, none⟩ (.int .i64 x)) b s x no := Blk.set h 1 _
theorem SBox.putNo {w : World} {b : Nat} {s : ByteArray} {a no : Int} (h : SBox w b s a no) (x : Int) : SBox (w.setCell ⟨b, 2, none⟩ (.int .i64 x)) b s a x := Blk.set h 2 _

theorem end_any (b : Nat) (s : ByteArray) (a no : Int) (w : World) (H : SBox w b s a no) (hs : s.size ≤ 9223372036854775807) :
    Calls Try.prog 47 #[.pointer (some ⟨b, 0, none⟩)] w fun e w' => e = .returned (.bool (decide ((s.size : Int) ≤ a))) ∧ Chg Nothing w w' := by
  obtain ⟨r0, r1, r2, f0, f1, f2, hlt⟩ := H.at_
  clear H
  go_enter Try.func47, Try.ntmps47
  go_wp2
  go_quiet (fail)
  go_wp2
  go_ret
  exact ⟨rfl, by repeat (first | exact Chg.refl _ _ | with_reducible apply Chg.drewN | with_reducible apply Chg.drew)⟩
theorem end_quiet (b : Nat) (s : ByteArray) (a no : Int) (w : World) (H : SBox w b s a no) (hs : s.size ≤ 9223372036854775807) :
    Calls Try.prog 47 #[.pointer (some ⟨b, 0, none⟩)] w fun e w' => e = .returned (.bool (decide ((s.size : Int) ≤ a))) ∧ ∃ m, w' = w.drewN m := by
  obtain ⟨r0, r1, r2, f0, f1, f2, hlt⟩ := H.at_
  clear H
  go_enter Try.func47, Try.ntmps47
  go_wp2
  go_quiet (fail)
  go_wp2
  go_ret
  exact ⟨rfl, _, rfl⟩
theorem fails_any (b : Nat) (s : ByteArray) (a no a' no' : Int) (w : World) (H : SBox w b s a no) :
    Calls Try.prog 70 #[.pointer (some ⟨b, 0, none⟩), .int .i64 a', .int .i64 no'] w fun e w' => e = .returned (.tuple #[]) ∧ SBox w' b s a' no' ∧ Chg (One b) w w' := by
  obtain ⟨r0, r1, r2, f0, f1, f2, hlt⟩ := H.at_
  have HH := hid H
  clear H
  go_enter Try.func70, Try.ntmps70
  go_wp2
  try go_region
  go_wp2
  exact bodyPost_end (v := .tuple #[]) (by simp [results, Try.results70]) rfl ⟨rfl, (HH.out.putAt _).putNo _, ((Chg.refl _ _).setOne _ _).setOne _ _⟩
/-- What 'has' answers. -/
def hasB (s : ByteArray) (a : Nat) (x : Nat) : Bool := if h : a < s.size then s[a].toNat == x else false
end Go.Proofs.Ytllblpiakijpaaa

/- Layer 13: the scanner: has. -/
namespace Go.Proofs.Ytllblpiakijpaaa
open Go.RowKit
set_option linter.unusedVariables false

theorem has_any (b : Nat) (s : ByteArray) (a x : Nat) (no : Int) (w : World) (H : SBox w b s a no) (hs : s.size ≤ 9223372036854775806) (ha : a ≤ s.size) (hx : (x : Int) ≤ 255) :
    Calls Try.prog 48 #[.pointer (some ⟨b, 0, none⟩), .int .u8 x] w fun e w' => e = .returned (.bool (hasB s a x)) ∧ SBox w' b s (if hasB s a x = true then ((a + 1 : Nat) : Int) else (a : Int)) no ∧ Chg (One b) w w' := by
  obtain ⟨r0, r1, r2, f0, f1, f2, hlt⟩ := H.at_
  have HH := hid H
  clear H
  have hE := hid (fun n => end_quiet b s a no (w.drewN n) (Blk.drewN HH.out n) (by omega))
  by_cases hl : a < s.size
  · have hend : decide ((s.size : Int) ≤ (a : Int)) = false := decide_eq_false (by omega)
    rw [hend] at hE
    by_cases he : s[a].toNat = x
    · have hh := hid (show hasB s a x = true from by unfold hasB; rw [dif_pos hl]; exact beq_iff_eq.2 he)
      have hd : (((s[a].toNat : Nat) : Int) == (x : Int)) = true := beq_iff_eq.2 (by omega)
      have he := hid he
      rw [hh.out]
      go_enter Try.func48, Try.ntmps48
      go_wp2_with fail
      go_quiet ((go_at_call 47; exact Calls.quiet_of (hE.out _)))
      go_wp2
      go_ret
      exact ⟨rfl, Blk.set (Blk.drewN HH.out _) 1 _, ((Chg.refl _ _).drewN _).setOne _ _⟩
    · have hh := hid (show hasB s a x = false from by unfold hasB; rw [dif_pos hl]; exact beq_eq_false_iff_ne.2 he)
      have hd : (((s[a].toNat : Nat) : Int) == (x : Int)) = false := beq_eq_false_iff_ne.2 (by omega)
      have he := hid he
      rw [hh.out]
      go_enter Try.func48, Try.ntmps48
      go_wp2_with fail
      go_quiet ((go_at_call 47; exact Calls.quiet_of (hE.out _)))
      go_wp2
      go_ret
      exact ⟨rfl, Blk.drewN HH.out _, (Chg.refl _ _).drewN _⟩
  · have hend : decide ((s.size : Int) ≤ (a : Int)) = true := decide_eq_true (by omega)
    rw [hend] at hE
    have hh := hid (show hasB s a x = false from by unfold hasB; rw [dif_neg hl])
    rw [hh.out]
    go_enter Try.func48, Try.ntmps48
    go_wp2_with fail
    go_quiet ((go_at_call 47; exact Calls.quiet_of (hE.out _)))
    go_wp2
    go_ret
    exact ⟨rfl, Blk.drewN HH.out _, (Chg.refl _ _).drewN _⟩
end Go.Proofs.Ytllblpiakijpaaa

/- strings.IndexByte in this program (two lines turned from the shelf's templates). -/
namespace Go.Proofs.Ytllblpiakijpaaa
open Go.RowKit

set_option maxHeartbeats 1000000 in
set_option maxRecDepth 100000 in
theorem liteIndex_any (s : ByteArray) (c : Int) (w : World) :
    Calls Try.prog 88 #[.string s, .int .u8 c] w fun e w' => e = .returned (.int .i64 (Lib.indexByte s.data.toList c.toNat.toUInt8)) ∧ w' = w := by
  go_enter Try.func88, Try.ntmps88
  go_wp2
  rw [run_callFunc_extern Try.func107 (by kernel_rfl) (by kernel_rfl) (by kernel_rfl) (e := Extern.BytealgIndexByte.indexByte) (by kernel_rfl), Lib.run_indexByteString]
  simp only [Result.andThen]
  rw [Oper.upon_value]
  go_wp2
  go_ret
  exact ⟨rfl, rfl⟩
set_option maxHeartbeats 1000000 in
theorem indexByte_any (s : ByteArray) (c : Int) (w : World) :
    Calls Try.prog 69 #[.string s, .int .u8 c] w fun e w' => e = .returned (.int .i64 (Lib.indexByte s.data.toList c.toNat.toUInt8)) ∧ w' = w := by
  go_enter Try.func69, Try.ntmps69
  go_wp2_with (go_at_call 88; refine (liteIndex_any _ _ _).mono ?_; rintro e w' ⟨rfl, rfl⟩)
  go_ret
  exact ⟨rfl, rfl⟩
end Go.Proofs.Ytllblpiakijpaaa

/- The program's test by strings.IndexByte is the document's `in`. -/
namespace Go.Proofs.Ytllblpiakijpaaa
open Go.RowKit

theorem in_index (s : ByteArray) (b : Nat) (hb : b < 256) : decide (0 ≤ Lib.indexByte s.data.toList ((b : Int).toNat.toUInt8)) = inS s b := by
  rw [← Lib.contains_iff_indexByte]
  unfold inS
  rw [List.contains_eq_any_beq]
  congr 1
  funext x
  rw [Bool.eq_iff_iff]
  simp only [beq_iff_eq, Int.toNat_natCast, ← UInt8.toNat_inj]
  have : (Nat.toUInt8 b).toNat = b := by simp [Nat.toUInt8]; omega
  rw [this]
  exact eq_comm
end Go.Proofs.Ytllblpiakijpaaa

/- Layer 13: pure words: what is read at a place. -/
namespace Go.Proofs.Ytllblpiakijpaaa
open Go.RowKit

/-- The byte at a place, 0 behind the end. -/
def byteAt (s : ByteArray) (i : Nat) : Nat := if h : i < s.size then s[i].toNat else 0
/-- What was read: a value and the place behind it; or the place of what is amiss, and why. -/
inductive Rd (α : Type) where
  | ok (v : α) (next : Nat)
  | bad (at_ : Nat) (e : Int)
def escSet : ByteArray := ⟨#[92, 34, 63, 91, 93, 45, 94]⟩
/-- Escape at a place at which there is a backslash. -/
def escS (s : ByteArray) (a : Nat) : Rd Nat :=
  if a + 1 < s.size ∧ inS escSet (byteAt s (a + 1)) = true then .ok (byteAt s (a + 1)) (a + 2)
  else if a + 3 < s.size ∧ byteAt s (a + 1) = 120 ∧ 0 ≤ hexV (byteAt s (a + 2)) ∧ 0 ≤ hexV (byteAt s (a + 3)) then .ok ((16 * hexV (byteAt s (a + 2)) + hexV (byteAt s (a + 3))).toNat) (a + 4)
  else .bad a 131
theorem hexV_le (b : Nat) : hexV b ≤ 15 := by
  unfold hexV; split
  · omega
  · split <;> omega
theorem byteAt_lt (s : ByteArray) (i : Nat) : byteAt s i < 256 := by
  unfold byteAt; split
  · exact UInt8.toNat_lt _
  · omega
end Go.Proofs.Ytllblpiakijpaaa

/- Layer 13, the document's: Escape, the hexadecimal branch. -/
namespace Go.Proofs.Ytllblpiakijpaaa
open Go.RowKit
set_option linter.unusedVariables false
def gotB (v : Nat) (nx e : Int) : Value := .agg #[.int .u8 v, .int .u64 0, .int .u64 0, .int .u64 0, .int .u64 0, .slice none 0 0, .int .i64 0, .int .i64 nx, .int .i64 e]
theorem refEscape_hex (s : ByteArray) (a : Nat) (w : World) (hs : s.size ≤ 9223372036854775000) (ha : a < s.size) 
   (h3 : a + 3 < s.size) (hlt1 : byteAt s (a+1) < 256) (hlt2 : byteAt s (a+2) < 256) (hlt3 : byteAt s (a+3) < 256) (v2 v3 : Int) (h1 : a+1 < s.size) (h2 : a + 2 < s.size)
   (hb1 : s[a+1].toNat = byteAt s (a+1)) (hb2 : s[a+2].toNat = byteAt s (a+2)) (hb3 : s[a+3].toNat = byteAt s (a+3))
   (hin : Hid (inS escSet (byteAt s (a + 1)) = false)) (hdx : (((byteAt s (a + 1) : Nat) : Int) == 120) = true)
   (hH2 : Hid (∀ (w : World), Calls Try.prog 121 #[.int .u8 (byteAt s (a+2))] w fun e w' => e = .returned (.int .i64 v2) ∧ w' = w))
   (hH3 : Hid (∀ (w : World), Calls Try.prog 121 #[.int .u8 (byteAt s (a+3))] w fun e w' => e = .returned (.int .i64 v3) ∧ w' = w))
   (p2 : 0 ≤ v2) (p3 : 0 ≤ v3) (u2 : v2 ≤ 15) (u3 : v3 ≤ 15) (hd2 : decide ((a : Int) + 3 < (s.size : Int)) = true) :
    Calls Try.prog 110 #[.string s, .int .i64 a] w fun e w' => e = .returned (gotB ((16 * v2 + v3).toNat) (a + 4) 0) ∧ Chg Nothing w w' := by
              have hd2' : decide (0 ≤ v2) = true := decide_eq_true p2
              have hd3' : decide (0 ≤ v3) = true := decide_eq_true p3
              go_enter Try.func110, Try.ntmps110
              go_wp2_with fail
              refine (refIn_any escSet (byteAt s (a + 1)) _ (by omega) (by decide)).mono ?_
              rintro e w3 ⟨rfl, rfl⟩
              rw [hin.out]
              go_wp2_with fail
              refine (hH2.out _).mono ?_
              rintro e w3 ⟨rfl, rfl⟩
              go_wp2_with fail
              refine (hH3.out _).mono ?_
              rintro e w3 ⟨rfl, rfl⟩
              go_wp2_with fail
              have k2 := IntWalk.i64_in ((a : Int) + 2) (by omega)
              have k3 := IntWalk.i64_in ((a : Int) + 3) (by omega)
              have k4 := IntWalk.i64_in ((a : Int) + 4) (by omega)
              have m2 : 0 ≤ (a : Int) + 2 := by omega
              have m3 : 0 ≤ (a : Int) + 3 := by omega
              have t2 : ((a : Int) + 2).toNat = a + 2 := by omega
              have t3 : ((a : Int) + 3).toNat = a + 3 := by omega
              have kk := IntWalk.i64_in (16 * v2) (by omega)
              have kv := IntWalk.i64_in (16 * v2 + v3) (by omega)
              have ku := IntWalk.u8_in (16 * v2 + v3) (by omega)
              go_region_held3 (fun w' => True) (trivial) (first | ((with_reducible refine (hH2.out _).mono ?_); rintro e w3 ⟨rfl, rfl⟩) | ((with_reducible refine (hH3.out _).mono ?_); rintro e w3 ⟨rfl, rfl⟩))
              all_goals
                go_wp2
                have hc : (((16 * v2 + v3).toNat : Nat) : Int) = 16 * v2 + v3 := by omega
                refine bodyPost_ret (v := gotB ((16 * v2 + v3).toNat) (a + 4) 0) (by unfold gotB; rw [hc]; simp [results, Try.results110, go_sem]) rfl ⟨rfl, ?_⟩
                repeat (first | exact Chg.refl _ _ | with_reducible apply Chg.drewN | with_reducible apply Chg.drew | with_reducible apply Chg.alloc)
end Go.Proofs.Ytllblpiakijpaaa

/- Layer 13, the document's: Escape. -/
namespace Go.Proofs.Ytllblpiakijpaaa
open Go.RowKit
set_option linter.unusedVariables false
def Rd.at_ {α : Type} : Rd α → Nat
  | .ok _ nx => nx
  | .bad p _ => p
def Rd.no {α : Type} : Rd α → Int
  | .ok _ _ => 0
  | .bad _ e => e
def Rd.val {α : Type} (R : Rd α) (d : α) : α := match R with
  | .ok v _ => v
  | .bad _ _ => d
def gotOf (R : Rd Nat) : Value := gotB (R.val 0) R.at_ R.no
theorem byteAt_eq {s : ByteArray} {i : Nat} (h : i < s.size) : s[i].toNat = byteAt s i := by unfold byteAt; rw [dif_pos h]

theorem refEscape_any (s : ByteArray) (a : Nat) (w : World) (hs : s.size ≤ 9223372036854775000) (ha : a < s.size) :
    Calls Try.prog 110 #[.string s, .int .i64 a] w fun e w' => e = .returned (gotOf (escS s a)) ∧ Chg Nothing w w' := by
  by_cases h1 : a + 1 < s.size
  · have hb1 := byteAt_eq h1
    cases hin : inS escSet (byteAt s (a + 1)) with
    | true =>
      have hE := hid (show escS s a = .ok (byteAt s (a + 1)) (a + 2) from by unfold escS; rw [if_pos ⟨h1, hin⟩])
      replace hin := hid hin
      rw [hE.out]
      go_enter Try.func110, Try.ntmps110
      go_wp2_with fail
      refine (refIn_any escSet (byteAt s (a + 1)) _ (by have := byteAt_lt s (a + 1); omega) (by decide)).mono ?_
      rintro e w3 ⟨rfl, rfl⟩
      rw [hin.out]
      go_wp2
      refine bodyPost_ret (v := gotB (byteAt s (a + 1)) (a + 2) 0) (by simp [results, Try.results110, go_sem, gotB]) rfl ⟨rfl, (Chg.refl _ _).alloc _⟩
    | false =>
      have hlt1 := byteAt_lt s (a + 1)
      have hn : ¬ (a + 1 < s.size ∧ inS escSet (byteAt s (a + 1)) = true) := by rw [hin]; simp
      by_cases h3 : a + 3 < s.size
      · have h2 : a + 2 < s.size := by omega
        have hb2 := byteAt_eq h2
        have hb3 := byteAt_eq h3
        have hlt2 := byteAt_lt s (a + 2)
        have hlt3 := byteAt_lt s (a + 3)
        have hd2 : decide ((a : Int) + 3 < (s.size : Int)) = true := decide_eq_true (by omega)
        replace hin := hid hin
        by_cases hx : byteAt s (a + 1) = 120
        · have hdx : (((byteAt s (a + 1) : Nat) : Int) == 120) = true := beq_iff_eq.2 (by omega)
          have hH2 := hid (fun w => refHex_any (byteAt s (a + 2)) w (by omega))
          have hH3 := hid (fun w => refHex_any (byteAt s (a + 3)) w (by omega))
          replace hx := hid hx
          replace hn := hid hn
          generalize hv2 : hexV (byteAt s (a + 2)) = v2 at hH2
          generalize hv3 : hexV (byteAt s (a + 3)) = v3 at hH3
          by_cases p2 : 0 ≤ v2
          · by_cases p3 : 0 ≤ v3
            · have hE := hid (show escS s a = .ok ((16 * v2 + v3).toNat) (a + 4) from by unfold escS; rw [if_neg hn.out, if_pos ⟨h3, hx.out, hv2 ▸ p2, hv3 ▸ p3⟩, hv2, hv3])
              have u2 := hexV_le (byteAt s (a + 2))
              have u3 := hexV_le (byteAt s (a + 3))
              rw [hv2] at u2
              rw [hv3] at u3
              clear hv2 hv3
              rw [hE.out]
              exact refEscape_hex s a w hs ha h3 hlt1 hlt2 hlt3 v2 v3 h1 h2 hb1 hb2 hb3 hin hdx hH2 hH3 p2 p3 u2 u3 hd2
            · have hE := hid (show escS s a = .bad a 131 from by unfold escS; rw [if_neg hn.out, if_neg (fun h => p3 (hv3 ▸ h.2.2.2))])
              have hd3 : decide (0 ≤ v3) = false := decide_eq_false p3
              replace hv2 := hid hv2
              replace hv3 := hid hv3
              clear p3
              rw [hE.out]
              go_enter Try.func110, Try.ntmps110
              go_wp2_with fail
              refine (refIn_any escSet (byteAt s (a + 1)) _ (by omega) (by decide)).mono ?_
              rintro e w3 ⟨rfl, rfl⟩
              rw [hin.out]
              go_wp2_with fail
              refine (hH2.out _).mono ?_
              rintro e w3 ⟨rfl, rfl⟩
              go_wp2_with fail
              refine (hH3.out _).mono ?_
              rintro e w3 ⟨rfl, rfl⟩
              go_wp2
              refine bodyPost_ret (v := gotB 0 a 131) (by simp [results, Try.results110, go_sem, gotB]) rfl ⟨rfl, (Chg.refl _ _).alloc _⟩
          · have hE := hid (show escS s a = .bad a 131 from by unfold escS; rw [if_neg hn.out, if_neg (fun h => p2 (hv2 ▸ h.2.2.1))])
            have hd3 : decide (0 ≤ v2) = false := decide_eq_false p2
            replace hv2 := hid hv2
            replace hv3 := hid hv3
            clear p2
            rw [hE.out]
            go_enter Try.func110, Try.ntmps110
            go_wp2_with fail
            refine (refIn_any escSet (byteAt s (a + 1)) _ (by omega) (by decide)).mono ?_
            rintro e w3 ⟨rfl, rfl⟩
            rw [hin.out]
            go_wp2_with fail
            refine (hH2.out _).mono ?_
            rintro e w3 ⟨rfl, rfl⟩
            go_wp2
            refine bodyPost_ret (v := gotB 0 a 131) (by simp [results, Try.results110, go_sem, gotB]) rfl ⟨rfl, (Chg.refl _ _).alloc _⟩
        · have hdx : (((byteAt s (a + 1) : Nat) : Int) == 120) = false := by rw [beq_eq_false_iff_ne]; omega
          have hE := hid (show escS s a = .bad a 131 from by unfold escS; rw [if_neg hn, if_neg (fun h => hx h.2.1)])
          clear hn hx
          rw [hE.out]
          go_enter Try.func110, Try.ntmps110
          go_wp2_with fail
          refine (refIn_any escSet (byteAt s (a + 1)) _ (by omega) (by decide)).mono ?_
          rintro e w3 ⟨rfl, rfl⟩
          rw [hin.out]
          go_wp2
          refine bodyPost_ret (v := gotB 0 a 131) (by simp [results, Try.results110, go_sem, gotB]) rfl ⟨rfl, (Chg.refl _ _).alloc _⟩
      · have hd2 : decide ((a : Int) + 3 < (s.size : Int)) = false := decide_eq_false (by omega)
        have hE := hid (show escS s a = .bad a 131 from by unfold escS; rw [if_neg hn, if_neg (by omega)])
        replace hin := hid hin
        clear hn
        rw [hE.out]
        go_enter Try.func110, Try.ntmps110
        go_wp2_with fail
        refine (refIn_any escSet (byteAt s (a + 1)) _ (by omega) (by decide)).mono ?_
        rintro e w3 ⟨rfl, rfl⟩
        rw [hin.out]
        go_wp2
        refine bodyPost_ret (v := gotB 0 a 131) (by simp [results, Try.results110, go_sem, gotB]) rfl ⟨rfl, (Chg.refl _ _).alloc _⟩
  · have hd : decide ((a : Int) + 1 < (s.size : Int)) = false := decide_eq_false (by omega)
    have hd2 : decide ((a : Int) + 3 < (s.size : Int)) = false := decide_eq_false (by omega)
    have hE := hid (show escS s a = .bad a 131 from by unfold escS; rw [if_neg (by omega), if_neg (by omega)])
    rw [hE.out]
    go_enter Try.func110, Try.ntmps110
    go_wp2
    refine bodyPost_ret (v := gotB 0 a 131) (by simp [results, Try.results110, go_sem, gotB]) rfl ⟨rfl, (Chg.refl _ _).alloc _⟩
theorem refEscape_any' (s : ByteArray) (a : Nat) (w : World) (hs : s.size ≤ 9223372036854775000) (ha : a < s.size) :
    Calls Try.prog 110 #[.string s, .int .i64 a] w fun e w' => e = .returned (.agg #[.int .u8 ((escS s a).val 0 : Nat), .int .u64 0, .int .u64 0, .int .u64 0, .int .u64 0, .slice none 0 0, .int .i64 0, .int .i64 (escS s a).at_, .int .i64 (escS s a).no]) ∧ Chg Nothing w w' := refEscape_any s a w hs ha
/-- What an untouched old block reads as behind a call. -/
theorem Chg.cells {W w' : World} (h : Chg Nothing W w') : (∀ b o, b < W.heap.size → w'.cell? ⟨b, o, none⟩ = W.cell? ⟨b, o, none⟩) ∧ (∀ b o, b < W.heap.size → w'.frozen? ⟨b, o, none⟩ = W.frozen? ⟨b, o, none⟩) :=
  ⟨fun b o hb => h.below.cell (p := ⟨b, o, none⟩) hb, fun b o hb => h.below.frozen (p := ⟨b, o, none⟩) hb⟩
end Go.Proofs.Ytllblpiakijpaaa

/- Layer 13: the program's scanner: escape. -/
namespace Go.Proofs.Ytllblpiakijpaaa
open Go.RowKit
set_option linter.unusedVariables false
/-- What a method of the scanner leaves that answers a byte. -/
def ScB (R : Rd Nat) (s : ByteArray) (b : Nat) (w : World) (e : Ending) (w' : World) : Prop :=
  e = .returned (.int .u8 (R.val 0)) ∧ SBox w' b s R.at_ R.no ∧ Chg (One b) w w'
/-- Where a byte stands first in a text. -/
def idxV (s : ByteArray) (b : Nat) : Int := Lib.indexByte s.data.toList b.toUInt8
theorem idx_any (s : ByteArray) (b : Nat) (w : World) :
    Calls Try.prog 69 #[.string s, .int .u8 b] w fun e w' => e = .returned (.int .i64 (idxV s b)) ∧ w' = w := indexByte_any s b w
theorem in_idx (s : ByteArray) (b : Nat) (hb : b < 256) : decide (0 ≤ idxV s b) = inS s b := in_index s b hb
def hexs : ByteArray := ⟨#[48, 49, 50, 51, 52, 53, 54, 55, 56, 57, 97, 98, 99, 100, 101, 102]⟩
theorem hex_index' : ∀ b : Fin 256, idxV hexs b.val = hexV b.val := by decide +kernel
theorem hex_index (b : Nat) (h : b < 256) : idxV hexs b = hexV b := hex_index' ⟨b, h⟩
theorem hexIdx_any (b : Nat) (w : World) (h : (b : Int) < 256) :
    Calls Try.prog 69 #[.string ⟨#[48, 49, 50, 51, 52, 53, 54, 55, 56, 57, 97, 98, 99, 100, 101, 102]⟩, .int .u8 b] w fun e w' => e = .returned (.int .i64 (hexV b)) ∧ w' = w := by
  rw [← hex_index b (by omega)]; exact idx_any hexs b w
theorem rest_size (s : ByteArray) (k : Nat) : (s.extract k s.size).size = s.size - k := by simp
theorem rest_get (s : ByteArray) (k j i : Nat) (h : j < (s.extract k s.size).size) (hi : i = k + j) : ((s.extract k s.size)[j]'h).toNat = byteAt s i := by
  have hs : k + j < s.size := by simp at h; omega
  subst hi
  rw [← byteAt_eq hs]
  simp [ByteArray.getElem_extract]
theorem rest_some (s : ByteArray) (k : Nat) (h : k < s.size) : ¬ (s.extract k s.size).toList = [] := by
  intro e
  have : (s.extract k s.size).toList.length = s.size - k := by rw [ByteArray.toList_eq]; simp
  rw [e] at this; simp at this; omega
theorem rest_none (s : ByteArray) (k : Nat) (h : s.size ≤ k) : (s.extract k s.size).toList = [] := by
  apply List.eq_nil_of_length_eq_zero
  rw [ByteArray.toList_eq]; simp; omega
theorem rest_some' (s : ByteArray) (k : Nat) (h : k < s.size) : (!(s.extract k s.size).toList.isEmpty) = true := by
  have := rest_some s k h
  simpa using this
theorem rest_none' (s : ByteArray) (k : Nat) (h : s.size ≤ k) : (!(s.extract k s.size).toList.isEmpty) = false := by
  rw [rest_none s k h]; rfl
set_option maxHeartbeats 1000000 in
theorem escape_any (b : Nat) (s : ByteArray) (a : Nat) (w : World) (H : SBox w b s a 0) (hs : s.size ≤ 9223372036854775000) (ha : a < s.size) :
    Calls Try.prog 105 #[.pointer (some ⟨b, 0, none⟩)] w (ScB (escS s a) s b w) := by
  obtain ⟨r0, r1, r2, f0, f1, f2, hlt⟩ := H.at_
  have HH := hid H
  clear H
  by_cases h1 : a + 1 < s.size
  · have hlt1 := byteAt_lt s (a + 1)
    have hne := rest_some s (a + 1) h1
    have hne' := rest_some' s (a + 1) h1
    have hg0 := rest_get s (a + 1) 0 (a + 1) (by simp; omega) rfl
    cases hin : inS escSet (byteAt s (a + 1)) with
    | true =>
      have hE := hid (show escS s a = .ok (byteAt s (a + 1)) (a + 2) from by unfold escS; rw [if_pos ⟨h1, hin⟩])
      have hd : decide (0 ≤ idxV escSet (byteAt s (a + 1))) = true := by rw [in_idx _ _ hlt1, hin]
      have hd' : 0 ≤ idxV escSet (byteAt s (a + 1)) := of_decide_eq_true hd
      replace hin := hid hin
      rw [hE.out]
      go_enter Try.func105, Try.ntmps105
      go_wp2_with fail
      refine (idx_any escSet _ _).mono ?_
      rintro e w' ⟨rfl, rfl⟩
      go_wp2
      go_ret
      exact ⟨rfl, HH.out.putAt _, (Chg.refl _ _).setOne _ _⟩
    | false =>
      have hd : decide (0 ≤ idxV escSet (byteAt s (a + 1))) = false := by rw [in_idx _ _ hlt1, hin]
      have hd' : ¬ 0 ≤ idxV escSet (byteAt s (a + 1)) := of_decide_eq_false hd
      have hn : Hid (¬ (a + 1 < s.size ∧ inS escSet (byteAt s (a + 1)) = true)) := hid (by rw [hin]; simp)
      replace hin := hid hin
      by_cases h3 : a + 3 < s.size
      · have hlt2 := byteAt_lt s (a + 2)
        have hlt3 := byteAt_lt s (a + 3)
        have hg1 := rest_get s (a + 1) 1 (a + 2) (by simp; omega) rfl
        have hg2 := rest_get s (a + 1) 2 (a + 3) (by simp; omega) rfl
        have hz : (2 : Int) < ((s.size - (a + 1) : Nat) : Int) := by omega
        by_cases hx : byteAt s (a + 1) = 120
        · have hdx : (((byteAt s (a + 1) : Nat) : Int) == 120) = true := beq_iff_eq.2 (by omega)
          have u2 := hexV_le (byteAt s (a + 2))
          have u3 := hexV_le (byteAt s (a + 3))
          replace hx := hid hx
          by_cases p2 : 0 ≤ hexV (byteAt s (a + 2))
          · by_cases p3 : 0 ≤ hexV (byteAt s (a + 3))
            · have hE := hid (show escS s a = .ok ((16 * hexV (byteAt s (a + 2)) + hexV (byteAt s (a + 3))).toNat) (a + 4) from by unfold escS; rw [if_neg hn.out, if_pos ⟨h3, hx.out, p2, p3⟩])
              rw [hE.out]
              go_enter Try.func105, Try.ntmps105
              go_wp2_with fail
              refine (idx_any escSet _ _).mono ?_
              rintro e w' ⟨rfl, rfl⟩
              go_wp2_with fail
              go_quiet ((go_at_call 69; exact Calls.quiet_of_same (hexIdx_any _ _ (by first | omega | (rw [hg1]; omega) | (rw [hg2]; omega)))))
              go_wp2
              have hc : (((16 * hexV (byteAt s (a + 2)) + hexV (byteAt s (a + 3))).toNat : Nat) : Int) = 16 * hexV (byteAt s (a + 2)) + hexV (byteAt s (a + 3)) := by omega
              go_ret
              exact ⟨congrArg (fun z => Ending.returned (Value.int .u8 z)) hc.symm, SBox.putAt (Blk.drewN HH.out _) _, ((Chg.refl _ _).drewN _).setOne _ _⟩
            · have hE := hid (show escS s a = .bad a 131 from by unfold escS; rw [if_neg hn.out, if_neg (fun h => p3 h.2.2.2)])
              have hd3 : decide (0 ≤ hexV (byteAt s (a + 3))) = false := decide_eq_false p3
              rw [hE.out]
              go_enter Try.func105, Try.ntmps105
              go_wp2_with fail
              refine (idx_any escSet _ _).mono ?_
              rintro e w' ⟨rfl, rfl⟩
              go_wp2_with fail
              go_quiet ((go_at_call 69; exact Calls.quiet_of_same (hexIdx_any _ _ (by first | omega | (rw [hg1]; omega) | (rw [hg2]; omega)))))
              go_wp2_with fail
              refine (fails_any b s a 0 a 131 _ (Blk.drewN HH.out _)).mono ?_
              rintro e w' ⟨rfl, hB, hc⟩
              go_wp2
              go_ret
              exact ⟨rfl, hB, ((Chg.refl _ _).drewN _).trans hc⟩
          · have hE := hid (show escS s a = .bad a 131 from by unfold escS; rw [if_neg hn.out, if_neg (fun h => p2 h.2.2.1)])
            have hd3 : decide (0 ≤ hexV (byteAt s (a + 2))) = false := decide_eq_false p2
            rw [hE.out]
            go_enter Try.func105, Try.ntmps105
            go_wp2_with fail
            refine (idx_any escSet _ _).mono ?_
            rintro e w' ⟨rfl, rfl⟩
            go_wp2_with fail
            go_quiet ((go_at_call 69; exact Calls.quiet_of_same (hexIdx_any _ _ (by first | omega | (rw [hg1]; omega) | (rw [hg2]; omega)))))
            go_wp2_with fail
            refine (fails_any b s a 0 a 131 _ (Blk.drewN HH.out _)).mono ?_
            rintro e w' ⟨rfl, hB, hc⟩
            go_wp2
            go_ret
            exact ⟨rfl, hB, ((Chg.refl _ _).drewN _).trans hc⟩
        · have hdx : (((byteAt s (a + 1) : Nat) : Int) == 120) = false := by rw [beq_eq_false_iff_ne]; omega
          have hE := hid (show escS s a = .bad a 131 from by unfold escS; rw [if_neg hn.out, if_neg (fun h => hx h.2.1)])
          clear hx
          rw [hE.out]
          go_enter Try.func105, Try.ntmps105
          go_wp2_with fail
          refine (idx_any escSet _ _).mono ?_
          rintro e w' ⟨rfl, rfl⟩
          go_wp2_with fail
          refine (fails_any b s a 0 a 131 _ HH.out).mono ?_
          rintro e w' ⟨rfl, hB, hc⟩
          go_wp2
          go_ret
          exact ⟨rfl, hB, hc⟩
      · have hz : ¬ (2 : Int) < ((s.size - (a + 1) : Nat) : Int) := by omega
        have hE := hid (show escS s a = .bad a 131 from by unfold escS; rw [if_neg hn.out, if_neg (by omega)])
        rw [hE.out]
        go_enter Try.func105, Try.ntmps105
        go_wp2_with fail
        refine (idx_any escSet _ _).mono ?_
        rintro e w' ⟨rfl, rfl⟩
        go_wp2_with fail
        refine (fails_any b s a 0 a 131 _ HH.out).mono ?_
        rintro e w' ⟨rfl, hB, hc⟩
        go_wp2
        go_ret
        exact ⟨rfl, hB, hc⟩
  · have hnn := rest_none s (a + 1) (by omega)
    have hnn' := rest_none' s (a + 1) (by omega)
    have hz : ¬ (2 : Int) < ((s.size - (a + 1) : Nat) : Int) := by omega
    have hE := hid (show escS s a = .bad a 131 from by unfold escS; rw [if_neg (by omega), if_neg (by omega)])
    rw [hE.out]
    go_enter Try.func105, Try.ntmps105
    go_wp2_with fail
    refine (fails_any b s a 0 a 131 _ HH.out).mono ?_
    rintro e w' ⟨rfl, hB, hc⟩
    go_wp2
    go_ret
    exact ⟨rfl, hB, hc⟩
end Go.Proofs.Ytllblpiakijpaaa

/- Layer 13: the program's scanner: one, byteOf; the document's item. -/
namespace Go.Proofs.Ytllblpiakijpaaa
open Go.RowKit
set_option linter.unusedVariables false
/-- A byte of a pattern or of a class, at a place that there is. -/
def oneS (ap : ByteArray) (no : Int) (s : ByteArray) (a : Nat) : Rd Nat :=
  if byteAt s a = 92 then escS s a
  else if signB (byteAt s a) = true ∧ inS ap (byteAt s a) = false then .ok (byteAt s a) (a + 1) else .bad a no
def insideSet : ByteArray := ⟨#[92, 34, 91, 93, 45, 94]⟩
def itemS (s : ByteArray) (a : Nat) : Rd Nat := if a < s.size then oneS insideSet 132 s a else .bad s.size 133

set_option maxHeartbeats 1000000 in
theorem one_any (ap : ByteArray) (no : Int) (b : Nat) (s : ByteArray) (a : Nat) (w : World) (H : SBox w b s a 0) (hs : s.size ≤ 9223372036854775000) (ha : a < s.size) :
    Calls Try.prog 87 #[.pointer (some ⟨b, 0, none⟩), .string ap, .int .i64 no] w (ScB (oneS ap no s a) s b w) := by
  obtain ⟨r0, r1, r2, f0, f1, f2, hlt⟩ := H.at_
  have HH := hid H
  clear H
  have hlt1 := byteAt_lt s a
  have hg0 := byteAt_eq ha
  by_cases h92 : byteAt s a = 92
  · have hd : (((byteAt s a : Nat) : Int) == 92) = true := beq_iff_eq.2 (by omega)
    have hE := hid (show oneS ap no s a = escS s a from by unfold oneS; rw [if_pos h92])
    replace h92 := hid h92
    rw [hE.out]
    go_enter Try.func87, Try.ntmps87
    go_wp2_with fail
    go_quiet (fail)
    go_wp2_with fail
    refine (escape_any b s a _ (Blk.drewN HH.out _) hs ha).mono ?_
    rintro e w' ⟨rfl, hB, hc⟩
    go_wp2
    go_ret
    exact ⟨rfl, hB, ((Chg.refl _ _).drewN _).trans hc⟩
  · have hd : (((byteAt s a : Nat) : Int) == 92) = false := by rw [beq_eq_false_iff_ne]; omega
    by_cases hsg : signB (byteAt s a) = true
    · cases hin : inS ap (byteAt s a) with
      | true =>
        have hE := hid (show oneS ap no s a = .bad a no from by unfold oneS; rw [if_neg h92, if_neg (by rw [hin]; simp)])
        have hd3 : decide (0 ≤ idxV ap (byteAt s a)) = true := by rw [in_idx _ _ hlt1, hin]
        clear hin h92
        rw [hE.out]
        go_enter Try.func87, Try.ntmps87
        go_wp2_with fail
        go_quiet (fail)
        go_wp2_with fail
        refine (tokSign_any (byteAt s a) _ (by omega)).mono ?_
        rintro e w' ⟨rfl, rfl⟩
        go_wp2_with fail
        refine (idx_any ap _ _).mono ?_
        rintro e w' ⟨rfl, rfl⟩
        go_wp2_with fail
        refine (fails_any b s a 0 a no _ (Blk.drewN HH.out _)).mono ?_
        rintro e w' ⟨rfl, hB, hc⟩
        go_wp2
        go_ret
        exact ⟨rfl, hB, ((Chg.refl _ _).drewN _).trans hc⟩
      | false =>
        have hE := hid (show oneS ap no s a = .ok (byteAt s a) (a + 1) from by unfold oneS; rw [if_neg h92, if_pos ⟨hsg, hin⟩])
        have hd3 : decide (0 ≤ idxV ap (byteAt s a)) = false := by rw [in_idx _ _ hlt1, hin]
        clear hin h92
        rw [hE.out]
        go_enter Try.func87, Try.ntmps87
        go_wp2_with fail
        go_quiet (fail)
        go_wp2_with fail
        refine (tokSign_any (byteAt s a) _ (by omega)).mono ?_
        rintro e w' ⟨rfl, rfl⟩
        go_wp2_with fail
        refine (idx_any ap _ _).mono ?_
        rintro e w' ⟨rfl, rfl⟩
        go_wp2
        go_ret
        exact ⟨rfl, SBox.putAt (Blk.drewN HH.out _) _, ((Chg.refl _ _).drewN _).setOne _ _⟩
    · have hE := hid (show oneS ap no s a = .bad a no from by unfold oneS; rw [if_neg h92, if_neg (fun h => hsg h.1)])
      have hsg' : signB (byteAt s a) = false := by simpa using hsg
      clear h92 hsg
      rw [hE.out]
      go_enter Try.func87, Try.ntmps87
      go_wp2_with fail
      go_quiet (fail)
      go_wp2_with fail
      refine (tokSign_any (byteAt s a) _ (by omega)).mono ?_
      rintro e w' ⟨rfl, rfl⟩
      go_wp2_with fail
      refine (fails_any b s a 0 a no _ (Blk.drewN HH.out _)).mono ?_
      rintro e w' ⟨rfl, hB, hc⟩
      go_wp2
      go_ret
      exact ⟨rfl, hB, ((Chg.refl _ _).drewN _).trans hc⟩

set_option maxHeartbeats 1000000 in
theorem byteOf_any (b : Nat) (s : ByteArray) (a : Nat) (w : World) (H : SBox w b s a 0) (hs : s.size ≤ 9223372036854775000) (ha : a ≤ s.size) :
    Calls Try.prog 102 #[.pointer (some ⟨b, 0, none⟩)] w (ScB (itemS s a) s b w) := by
  obtain ⟨r0, r1, r2, f0, f1, f2, hlt⟩ := H.at_
  have HH := hid H
  clear H
  by_cases h : a < s.size
  · have hE := hid (show itemS s a = oneS insideSet 132 s a from by unfold itemS; rw [if_pos h])
    rw [hE.out]
    have he : decide ((s.size : Int) ≤ (a : Int)) = false := decide_eq_false (by omega)
    go_enter Try.func102, Try.ntmps102
    go_wp2_with fail
    refine (end_quiet b s a 0 _ HH.out (by omega)).mono ?_
    rintro e w' ⟨rfl, m, rfl⟩
    go_wp2_with fail
    refine (one_any insideSet 132 b s a _ (Blk.drewN HH.out _) hs h).mono ?_
    rintro e w' ⟨rfl, hB, hc⟩
    go_wp2
    go_ret
    exact ⟨rfl, hB, ((Chg.refl _ _).drewN _).trans hc⟩
  · have hE := hid (show itemS s a = .bad a 133 from by unfold itemS; rw [if_neg h, show s.size = a from by omega])
    rw [hE.out]
    have he : decide ((s.size : Int) ≤ (a : Int)) = true := decide_eq_true (by omega)
    go_enter Try.func102, Try.ntmps102
    go_wp2_with fail
    refine (end_quiet b s a 0 _ HH.out (by omega)).mono ?_
    rintro e w' ⟨rfl, m, rfl⟩
    go_wp2_with fail
    refine (fails_any b s a 0 a 133 _ (Blk.drewN HH.out _)).mono ?_
    rintro e w' ⟨rfl, hB, hc⟩
    go_wp2
    go_ret
    exact ⟨rfl, hB, ((Chg.refl _ _).drewN _).trans hc⟩
end Go.Proofs.Ytllblpiakijpaaa

/- Layer 13: pure words: what is read from a place on, as relations; the document's item. -/
namespace Go.Proofs.Ytllblpiakijpaaa
open Go.RowKit
set_option linter.unusedVariables false

def Rd.map {α β : Type} (f : α → β) : Rd α → Rd β
  | .ok v nx => .ok (f v) nx
  | .bad p e => .bad p e
theorem Rd.map_at {α β : Type} (f : α → β) (R : Rd α) : (R.map f).at_ = R.at_ := by cases R <;> rfl
theorem Rd.map_no {α β : Type} (f : α → β) (R : Rd α) : (R.map f).no = R.no := by cases R <;> rfl

/-- The items of a class, from a place on. -/
inductive ClassRun (s : ByteArray) : Nat → Cls → Nat → Rd (Cls × Nat) → Prop
  | stop {a : Nat} {x : Cls} {n : Nat} (h : a < s.size) (hb : byteAt s a = 93) : ClassRun s a x n (.ok (x, n) (a + 1))
  | bad1 {a : Nat} {x : Cls} {n p : Nat} {e : Int} (h : ¬ (a < s.size ∧ byteAt s a = 93)) (h1 : itemS s a = .bad p e) : ClassRun s a x n (.bad p e)
  | one {a : Nat} {x : Cls} {n v b : Nat} {R : Rd (Cls × Nat)} (h : ¬ (a < s.size ∧ byteAt s a = 93)) (h1 : itemS s a = .ok v b) (h2 : ¬ (b < s.size ∧ byteAt s b = 45))
      (k : ClassRun s b (x ||| rangeC v v) (n + 1) R) : ClassRun s a x n R
  | bad2 {a : Nat} {x : Cls} {n v b p : Nat} {e : Int} (h : ¬ (a < s.size ∧ byteAt s a = 93)) (h1 : itemS s a = .ok v b) (h2 : b < s.size ∧ byteAt s b = 45)
      (h3 : itemS s (b + 1) = .bad p e) : ClassRun s a x n (.bad p e)
  | less {a : Nat} {x : Cls} {n v b u d : Nat} (h : ¬ (a < s.size ∧ byteAt s a = 93)) (h1 : itemS s a = .ok v b) (h2 : b < s.size ∧ byteAt s b = 45)
      (h3 : itemS s (b + 1) = .ok u d) (h4 : u < v) : ClassRun s a x n (.bad b 132)
  | two {a : Nat} {x : Cls} {n v b u d : Nat} {R : Rd (Cls × Nat)} (h : ¬ (a < s.size ∧ byteAt s a = 93)) (h1 : itemS s a = .ok v b) (h2 : b < s.size ∧ byteAt s b = 45)
      (h3 : itemS s (b + 1) = .ok u d) (h4 : ¬ u < v) (k : ClassRun s d (x ||| rangeC v u) (n + 1) R) : ClassRun s a x n R
def negS (s : ByteArray) (op : Nat) : Bool := decide (op + 1 < s.size ∧ byteAt s (op + 1) = 94)
def beginS (s : ByteArray) (op : Nat) : Nat := if negS s op = true then op + 2 else op + 1
def finC (neg : Bool) (op : Nat) : Rd (Cls × Nat) → Rd Cls
  | .bad p e => .bad p e
  | .ok (x, n) b => if n = 0 ∨ (if neg then ~~~ x else x) = 0 then .bad op 132 else .ok (if neg then ~~~ x else x) b

/-- An element of a pattern, at a place that there is. -/
inductive ElemRd (s : ByteArray) (a : Nat) : Rd Cls → Prop
  | full (h : byteAt s a = 63) : ElemRd s a (.ok fullC (a + 1))
  | cls {R : Rd (Cls × Nat)} (h : byteAt s a = 91) (k : ClassRun s (beginS s a) 0 0 R) : ElemRd s a (finC (negS s a) a R)
  | byte (h : byteAt s a ≠ 63) (h' : byteAt s a ≠ 91) : ElemRd s a ((oneS ByteArray.empty 130 s a).map fun v => BitVec.twoPow 256 v)
inductive PatRun (s : ByteArray) : Nat → List Cls → Rd (List Cls) → Prop
  | stop {a : Nat} {xs : List Cls} (h : s.size ≤ a) : PatRun s a xs (.bad s.size 133)
  | close {a : Nat} {xs : List Cls} (h : a < s.size) (hb : byteAt s a = 34) (h1 : 0 < xs.length) : PatRun s a xs (.ok xs (a + 1))
  | empty {a : Nat} {xs : List Cls} (h : a < s.size) (hb : byteAt s a = 34) (h1 : xs.length = 0) : PatRun s a xs (.bad a 135)
  | long {a : Nat} {xs : List Cls} (h : a < s.size) (hb : byteAt s a ≠ 34) (h1 : xs.length = 64) : PatRun s a xs (.bad a 135)
  | bad {a : Nat} {xs : List Cls} {p : Nat} {e : Int} (h : a < s.size) (hb : byteAt s a ≠ 34) (h1 : xs.length ≠ 64) (k : ElemRd s a (.bad p e)) : PatRun s a xs (.bad p e)
  | step {a : Nat} {xs : List Cls} {x : Cls} {b : Nat} {R : Rd (List Cls)} (h : a < s.size) (hb : byteAt s a ≠ 34) (h1 : xs.length ≠ 64) (k : ElemRd s a (.ok x b)) (r : PatRun s b (xs ++ [x]) R) : PatRun s a xs R
/-- Digits: how many there are from a place on, and their number. -/
def isDig (s : ByteArray) (k : Nat) : Prop := k < s.size ∧ 48 ≤ byteAt s k ∧ byteAt s k ≤ 57
def valD (s : ByteArray) (a : Nat) : Nat → Nat
  | 0 => 0
  | j + 1 => 10 * valD s a j + (byteAt s (a + j) - 48)
structure DigRun (s : ByteArray) (a m : Nat) : Prop where
  yes : ∀ j, j < m → isDig s (a + j)
  no : ¬ isDig s (a + m)
def numS (s : ByteArray) (a m : Nat) : Rd Nat := if m = 0 ∨ (byteAt s a = 48 ∧ 1 < m) ∨ 1000000 < valD s a m then .bad a 134 else .ok (valD s a m) (a + m)
structure Tok where
  kind : Nat
  at_ : Nat
  n : Nat
  p : List Cls
def signSet : ByteArray := ⟨#[40, 41, 38, 124, 33, 62, 126]⟩
def kindV (b : Nat) : Int := idxV signSet b + 1
inductive TokRd (s : ByteArray) (a : Nat) : Rd Tok → Prop
  | pat {R : Rd (List Cls)} (h : byteAt s a = 34) (k : PatRun s (a + 1) [] R) : TokRd s a (R.map fun p => ⟨8, a, 0, p⟩)
  | none (h : byteAt s a ≠ 34) (h1 : kindV (byteAt s a) < 1) : TokRd s a (.bad a 130)
  | sign {k : Nat} (h : byteAt s a ≠ 34) (h1 : kindV (byteAt s a) = k) (h2 : 1 ≤ k) (h3 : k < 6) : TokRd s a (.ok ⟨k, a, 0, []⟩ (a + 1))
  | num {k m : Nat} (h : byteAt s a ≠ 34) (h1 : kindV (byteAt s a) = k) (h2 : 6 ≤ k) (h3 : DigRun s (a + 1) m) : TokRd s a ((numS s (a + 1) m).map fun n => ⟨k, a, n, []⟩)
inductive LexRun (s : ByteArray) : Nat → List Tok → Rd (List Tok) → Prop
  | stop {a : Nat} {l : List Tok} (h : s.size ≤ a) : LexRun s a l (.ok l s.size)
  | blank {a : Nat} {l : List Tok} {R : Rd (List Tok)} (h : a < s.size) (hb : byteAt s a = 32) (k : LexRun s (a + 1) l R) : LexRun s a l R
  | bad {a : Nat} {l : List Tok} {p : Nat} {e : Int} (h : a < s.size) (hb : byteAt s a ≠ 32) (k : TokRd s a (.bad p e)) : LexRun s a l (.bad p e)
  | step {a : Nat} {l : List Tok} {t : Tok} {b : Nat} {R : Rd (List Tok)} (h : a < s.size) (hb : byteAt s a ≠ 32) (k : TokRd s a (.ok t b)) (r : LexRun s b (l ++ [t]) R) : LexRun s a l R

/-! ### Places -/
theorem escS_ok {s : ByteArray} {a v b : Nat} (h : escS s a = .ok v b) : a < b ∧ b ≤ s.size ∧ v < 256 := by
  unfold escS at h
  split at h
  · rename_i h1; injection h with h2 h3; have := byteAt_lt s (a + 1); omega
  · split at h
    · rename_i h1
      have u2 := hexV_le (byteAt s (a + 2))
      have u3 := hexV_le (byteAt s (a + 3))
      injection h with h2 h3; omega
    · cases h
theorem oneS_ok {ap : ByteArray} {no : Int} {s : ByteArray} {a v b : Nat} (h : oneS ap no s a = .ok v b) (ha : a < s.size) : a < b ∧ b ≤ s.size ∧ v < 256 := by
  unfold oneS at h
  split at h
  · exact escS_ok h
  · split at h
    · injection h with h2 h3; have := byteAt_lt s a; omega
    · cases h
theorem itemS_ok {s : ByteArray} {a v b : Nat} (h : itemS s a = .ok v b) : a < b ∧ b ≤ s.size ∧ v < 256 := by
  unfold itemS at h
  split at h
  · rename_i ha; exact oneS_ok h ha
  · cases h
theorem escS_bad {s : ByteArray} {a p : Nat} {e : Int} (h : escS s a = .bad p e) : p = a ∧ e = 131 := by
  unfold escS at h
  split at h
  · cases h
  · split at h
    · cases h
    · injection h with h1 h2; exact ⟨h1.symm, h2.symm⟩
theorem oneS_bad {ap : ByteArray} {no : Int} {s : ByteArray} {a p : Nat} {e : Int} (h : oneS ap no s a = .bad p e) (hn : no ≠ 0) : p = a ∧ e ≠ 0 := by
  unfold oneS at h
  split at h
  · have := escS_bad h; exact ⟨this.1, by rw [this.2]; decide⟩
  · split at h
    · cases h
    · injection h with h1 h2; exact ⟨h1.symm, fun e => hn (h2.trans e)⟩
theorem itemS_bad {s : ByteArray} {a p : Nat} {e : Int} (h : itemS s a = .bad p e) (ha : a ≤ s.size) : p = a ∧ e ≠ 0 := by
  unfold itemS at h
  split at h
  · exact oneS_bad h (by decide)
  · injection h with h1 h2; exact ⟨by omega, by omega⟩
theorem byteAt_get {s : ByteArray} {i x : Nat} (h : i < s.size) : (((s[i].toNat : Nat) : Int) == (x : Int)) = decide (byteAt s i = x) := by
  rw [byteAt_eq h, Bool.eq_iff_iff]; simp; omega
end Go.Proofs.Ytllblpiakijpaaa

/- Layer 13: the document's item. -/
namespace Go.Proofs.Ytllblpiakijpaaa
open Go.RowKit
set_option linter.unusedVariables false
def itemSet : ByteArray := ⟨#[34, 91, 93, 45, 94]⟩
theorem inside_item' : ∀ b : Fin 256, b.val ≠ 92 → inS insideSet b.val = inS itemSet b.val := by decide +kernel
theorem inside_item (b : Nat) (h : b < 256) (h9 : b ≠ 92) : inS insideSet b = inS itemSet b := inside_item' ⟨b, h⟩ h9
set_option maxHeartbeats 1000000 in
theorem refItem_any (s : ByteArray) (a : Nat) (w : World) (hs : s.size ≤ 9223372036854775000) (ha : a ≤ s.size) :
    Calls Try.prog 118 #[.string s, .int .i64 a] w fun e w' => e = .returned (gotOf (itemS s a)) ∧ Chg Nothing w w' := by
  by_cases h : a < s.size
  · have hlt1 := byteAt_lt s a
    have hg0 := byteAt_eq h
    by_cases h92 : byteAt s a = 92
    · have hd : (((byteAt s a : Nat) : Int) == 92) = true := beq_iff_eq.2 (by omega)
      have hE := hid (show itemS s a = escS s a from by unfold itemS oneS; rw [if_pos h, if_pos h92])
      replace h92 := hid h92
      rw [hE.out]
      go_enter Try.func118, Try.ntmps118
      go_wp2_with fail
      refine (refEscape_any' s a _ hs h).mono ?_
      rintro e w' ⟨rfl, hc⟩
      obtain ⟨q1, q2⟩ := hc.cells
      have hz := hc.size
      rw [World.size_alloc] at hz
      go_wp2
      refine bodyPost_ret (v := gotOf (escS s a)) (by simp [results, Try.results118, go_sem, gotOf, gotB, q1]) rfl ⟨rfl, ?_⟩
      have hC := ((Chg.refl Nothing w).alloc _).trans hc
      repeat (first | with_reducible exact hC | with_reducible refine Chg.setNew ?_ (Nat.le_refl _) _ _)
    · have hd : (((byteAt s a : Nat) : Int) == 92) = false := by rw [beq_eq_false_iff_ne]; omega
      have hin := inside_item (byteAt s a) hlt1 h92
      by_cases hsg : signB (byteAt s a) = true
      · cases hi : inS itemSet (byteAt s a) with
        | true =>
          have hE := hid (show itemS s a = .bad a 132 from by unfold itemS oneS; rw [if_pos h, if_neg h92, if_neg (by rw [hin, hi]; simp)])
          replace hi := hid hi
          clear hin h92
          rw [hE.out]
          go_enter Try.func118, Try.ntmps118
          go_wp2_with fail
          refine (refSign_any (byteAt s a) _ (by omega)).mono ?_
          rintro e w' ⟨rfl, rfl⟩
          go_wp2_with fail
          refine (refIn_any itemSet (byteAt s a) _ (by omega) (by decide)).mono ?_
          rintro e w' ⟨rfl, rfl⟩
          rw [hi.out]
          go_wp2
          refine bodyPost_ret (v := gotB 0 a 132) (by simp [results, Try.results118, go_sem, gotB]) rfl ⟨rfl, (Chg.refl _ _).alloc _⟩
        | false =>
          have hE := hid (show itemS s a = .ok (byteAt s a) (a + 1) from by unfold itemS oneS; rw [if_pos h, if_neg h92, if_pos ⟨hsg, hin.trans hi⟩])
          replace hi := hid hi
          clear hin h92
          rw [hE.out]
          go_enter Try.func118, Try.ntmps118
          go_wp2_with fail
          refine (refSign_any (byteAt s a) _ (by omega)).mono ?_
          rintro e w' ⟨rfl, rfl⟩
          go_wp2_with fail
          refine (refIn_any itemSet (byteAt s a) _ (by omega) (by decide)).mono ?_
          rintro e w' ⟨rfl, rfl⟩
          rw [hi.out]
          go_wp2
          refine bodyPost_ret (v := gotB (byteAt s a) (a + 1) 0) (by simp [results, Try.results118, go_sem, gotB]) rfl ⟨rfl, (Chg.refl _ _).alloc _⟩
      · have hE := hid (show itemS s a = .bad a 132 from by unfold itemS oneS; rw [if_pos h, if_neg h92, if_neg (fun h => hsg h.1)])
        have hsg' : signB (byteAt s a) = false := by simpa using hsg
        clear h92 hsg hin
        rw [hE.out]
        go_enter Try.func118, Try.ntmps118
        go_wp2_with fail
        refine (refSign_any (byteAt s a) _ (by omega)).mono ?_
        rintro e w' ⟨rfl, rfl⟩
        go_wp2
        refine bodyPost_ret (v := gotB 0 a 132) (by simp [results, Try.results118, go_sem, gotB]) rfl ⟨rfl, (Chg.refl _ _).alloc _⟩
  · have hE := hid (show itemS s a = .bad s.size 133 from by unfold itemS; rw [if_neg h])
    rw [hE.out]
    go_enter Try.func118, Try.ntmps118
    go_wp2
    refine bodyPost_ret (v := gotB 0 s.size 133) (by simp [results, Try.results118, go_sem, gotB]) rfl ⟨rfl, (Chg.refl _ _).alloc _⟩
theorem refItem_ok {s : ByteArray} {a v b : Nat} (h : itemS s a = .ok v b) (w : World) (hs : s.size ≤ 9223372036854775000) (ha : a ≤ s.size) :
    Calls Try.prog 118 #[.string s, .int .i64 a] w fun e w' => e = .returned (.agg #[.int .u8 v, .int .u64 0, .int .u64 0, .int .u64 0, .int .u64 0, .slice none 0 0, .int .i64 0, .int .i64 b, .int .i64 0]) ∧ Chg Nothing w w' := by
  have := refItem_any s a w hs ha
  rw [h] at this; exact this
theorem refItem_bad {s : ByteArray} {a p : Nat} {e : Int} (h : itemS s a = .bad p e) (w : World) (hs : s.size ≤ 9223372036854775000) (ha : a ≤ s.size) :
    Calls Try.prog 118 #[.string s, .int .i64 a] w fun e' w' => e' = .returned (.agg #[.int .u8 0, .int .u64 0, .int .u64 0, .int .u64 0, .int .u64 0, .slice none 0 0, .int .i64 0, .int .i64 p, .int .i64 e]) ∧ Chg Nothing w w' := by
  have := refItem_any s a w hs ha
  rw [h] at this; exact this
/-! The contracts of classes, their answers laid open. -/
theorem refNotL (x : Cls) (w : World) : Calls Try.prog 120 #[.agg #[.int .u64 (wd x 0), .int .u64 (wd x 1), .int .u64 (wd x 2), .int .u64 (wd x 3)]] w fun e w' => e = .returned (.agg #[.int .u64 (wd (~~~ x) 0), .int .u64 (wd (~~~ x) 1), .int .u64 (wd (~~~ x) 2), .int .u64 (wd (~~~ x) 3)]) ∧ Chg Nothing w w' := refNot_any x w
theorem refOrL (x y : Cls) (w : World) : Calls Try.prog 119 #[.agg #[.int .u64 (wd x 0), .int .u64 (wd x 1), .int .u64 (wd x 2), .int .u64 (wd x 3)], .agg #[.int .u64 (wd y 0), .int .u64 (wd y 1), .int .u64 (wd y 2), .int .u64 (wd y 3)]] w fun e w' => e = .returned (.agg #[.int .u64 (wd (x ||| y) 0), .int .u64 (wd (x ||| y) 1), .int .u64 (wd (x ||| y) 2), .int .u64 (wd (x ||| y) 3)]) ∧ Chg Nothing w w' := refOr_any x y w
theorem refRangeL (a b : Nat) (w : World) (ha : (a : Int) ≤ 255) (hb : (b : Int) ≤ 255) : Calls Try.prog 112 #[.int .u8 a, .int .u8 b] w fun e w' => e = .returned (.agg #[.int .u64 (wd (rangeC a b) 0), .int .u64 (wd (rangeC a b) 1), .int .u64 (wd (rangeC a b) 2), .int .u64 (wd (rangeC a b) 3)]) ∧ Chg Nothing w w' := refRange_any a b w ha hb
theorem refFullL (w : World) : Calls Try.prog 108 #[] w fun e w' => e = .returned (.agg #[.int .u64 (wd fullC 0), .int .u64 (wd fullC 1), .int .u64 (wd fullC 2), .int .u64 (wd fullC 3)]) ∧ Chg Nothing w w' := refFull_any w
theorem refSizeL (x : Cls) (w : World) : Calls Try.prog 80 #[.agg #[.int .u64 (wd x 0), .int .u64 (wd x 1), .int .u64 (wd x 2), .int .u64 (wd x 3)]] w fun e w' => e = .returned (.int .i64 (sizeC x)) ∧ Chg Nothing w w' := refSize_any x w
theorem classNotL (x : Cls) (w : World) : Calls Try.prog 101 #[.agg #[.int .u64 (wd x 0), .int .u64 (wd x 1), .int .u64 (wd x 2), .int .u64 (wd x 3)]] w fun e w' => e = .returned (.agg #[.int .u64 (wd (~~~ x) 0), .int .u64 (wd (~~~ x) 1), .int .u64 (wd (~~~ x) 2), .int .u64 (wd (~~~ x) 3)]) ∧ Chg Nothing w w' := classNot_any x w
theorem classOrL (x y : Cls) (w : World) : Calls Try.prog 103 #[.agg #[.int .u64 (wd x 0), .int .u64 (wd x 1), .int .u64 (wd x 2), .int .u64 (wd x 3)], .agg #[.int .u64 (wd y 0), .int .u64 (wd y 1), .int .u64 (wd y 2), .int .u64 (wd y 3)]] w fun e w' => e = .returned (.agg #[.int .u64 (wd (x ||| y) 0), .int .u64 (wd (x ||| y) 1), .int .u64 (wd (x ||| y) 2), .int .u64 (wd (x ||| y) 3)]) ∧ Chg Nothing w w' := classOr_any x y w
theorem classRangeL (a b : Nat) (w : World) (ha : a < 256) (hb : b < 256) : Calls Try.prog 104 #[.int .u8 a, .int .u8 b] w fun e w' => e = .returned (.agg #[.int .u64 (wd (rangeC a b) 0), .int .u64 (wd (rangeC a b) 1), .int .u64 (wd (rangeC a b) 2), .int .u64 (wd (rangeC a b) 3)]) ∧ Chg Nothing w w' := classRange_any a b w ha hb
theorem classFullL (w : World) : Calls Try.prog 85 #[] w fun e w' => e = .returned (.agg #[.int .u64 (wd fullC 0), .int .u64 (wd fullC 1), .int .u64 (wd fullC 2), .int .u64 (wd fullC 3)]) ∧ Chg Nothing w w' := classFull_any w
theorem classOfL (s : ByteArray) (w : World) (hs : s.size ≤ 9223372036854775807) : Calls Try.prog 46 #[.string s] w fun e w' => e = .returned (.agg #[.int .u64 (wd (ofC s) 0), .int .u64 (wd (ofC s) 1), .int .u64 (wd (ofC s) 2), .int .u64 (wd (ofC s) 3)]) ∧ Chg Nothing w w' := classOf_any s w hs
end Go.Proofs.Ytllblpiakijpaaa
