/- Layer 13: the scanner: fails, end, has. -/
import Derived.Test.YtpndjehiacmngaaTokA
namespace Go.Proofs.Ytpndjehiacmngaa
open Go.RowKit
set_option linter.unusedVariables false

def cellsS (s : ByteArray) (at_ no : Int) : Array Value := #[.string s, .int .i64 at_, .int .i64 no]
abbrev SBox (w : World) (b : Nat) (s : ByteArray) (at_ no : Int) : Prop := Blk w b (cellsS s at_ no) 53
structure SAt (w : World) (b : Nat) (s : ByteArray) (at_ no : Int) : Prop where
  r0 : w.cell? ⟨b, 0, none⟩ = some (.string s)
  r1 : w.cell? ⟨b, 1, none⟩ = some (.int .i64 at_)
  r2 : w.cell? ⟨b, 2, none⟩ = some (.int .i64 no)
  f0 : w.frozen? ⟨b, 0, none⟩ = false
  f1 : w.frozen? ⟨b, 1, none⟩ = false
  f2 : w.frozen? ⟨b, 2, none⟩ = false
  lt : b < w.heap.size
theorem SBox.at_ {w : World} {b : Nat} {s : ByteArray} {a no : Int} (h : SBox w b s a no) : SAt w b s a no :=
  ⟨h.cell 0 rfl, h.cell 1 rfl, h.cell 2 rfl, h.free 0, h.free 1, h.free 2, h.lt⟩
theorem SBox.putAt {w : World} {b : Nat} {s : ByteArray} {a no : Int} (h : SBox w b s a no) (x : Int) : SBox (w.setCell ⟨b, 1, none⟩ (.int .i64 x)) b s x no := Blk.set h 1 _
theorem SBox.putNo {w : World} {b : Nat} {s : ByteArray} {a no : Int} (h : SBox w b s a no) (x : Int) : SBox (w.setCell ⟨b, 2, none⟩ (.int .i64 x)) b s a x := Blk.set h 2 _

theorem end_any (b : Nat) (s : ByteArray) (a no : Int) (w : World) (H : SBox w b s a no) (hs : s.size ≤ 9223372036854775807) :
    Calls Try.prog 20 #[.pointer (some ⟨b, 0, none⟩)] w fun e w' => e = .returned (.bool (decide ((s.size : Int) ≤ a))) ∧ Chg Nothing w w' := by
  obtain ⟨r0, r1, r2, f0, f1, f2, hlt⟩ := H.at_
  clear H
  go_enter Try.func20, Try.ntmps20
  go_wp2
  go_quiet (fail)
  go_wp2
  go_ret
  exact ⟨rfl, by repeat (first | exact Chg.refl _ _ | with_reducible apply Chg.drewN | with_reducible apply Chg.drew)⟩
theorem end_quiet (b : Nat) (s : ByteArray) (a no : Int) (w : World) (H : SBox w b s a no) (hs : s.size ≤ 9223372036854775807) :
    Calls Try.prog 20 #[.pointer (some ⟨b, 0, none⟩)] w fun e w' => e = .returned (.bool (decide ((s.size : Int) ≤ a))) ∧ ∃ m, w' = w.drewN m := by
  obtain ⟨r0, r1, r2, f0, f1, f2, hlt⟩ := H.at_
  clear H
  go_enter Try.func20, Try.ntmps20
  go_wp2
  go_quiet (fail)
  go_wp2
  go_ret
  exact ⟨rfl, _, rfl⟩
theorem fails_any (b : Nat) (s : ByteArray) (a no a' no' : Int) (w : World) (H : SBox w b s a no) :
    Calls Try.prog 38 #[.pointer (some ⟨b, 0, none⟩), .int .i64 a', .int .i64 no'] w fun e w' => e = .returned (.tuple #[]) ∧ SBox w' b s a' no' ∧ Chg (One b) w w' := by
  obtain ⟨r0, r1, r2, f0, f1, f2, hlt⟩ := H.at_
  have HH := hid H
  clear H
  go_enter Try.func38, Try.ntmps38
  go_wp2
  try go_region
  go_wp2
  exact bodyPost_end (v := .tuple #[]) (by simp [results, Try.results38]) rfl ⟨rfl, (HH.out.putAt _).putNo _, ((Chg.refl _ _).setOne _ _).setOne _ _⟩
/-- What 'has' answers. -/
def hasB (s : ByteArray) (a : Nat) (x : Nat) : Bool := if h : a < s.size then s[a].toNat == x else false
end Go.Proofs.Ytpndjehiacmngaa
