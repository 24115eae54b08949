/- Layer 6 as the document has it: bytes, Of, Range. -/
import Derived.Test.YtpndjehiacmngaaRefB
namespace Go.Proofs.Ytpndjehiacmngaa
open Go.RowKit
set_option linter.unusedVariables false

def bytesL (x : Cls) (k : Nat) : List Bool := (List.range k).map x.getLsbD
theorem bytesL_succ (x : Cls) (k : Nat) : bytesL x (k + 1) = bytesL x k ++ [x.getLsbD k] := by unfold bytesL; rw [List.range_succ, List.map_append]; rfl
theorem infoB : (Try.prog.info? 4).map (fun i => (i.zero, i.size, i.bytes)) = some (some (.bool false), 1, 1) := by kernel_rfl
def ByInv (x : Cls) (w : World) (o i : Value) (wr : World) : Prop :=
  ∃ (k : Nat) (A : Option Addr) (c : Nat), (k : Int) ≤ 256 ∧ i = .int .i64 k ∧ o = .slice A k c ∧ wr.ownsRow (w.heap.size + 1) 4 1 (.slice A k c) k ((bytesL x k).map Value.bool) ∧ CBox wr w.heap.size x ∧ Chg Nothing w wr

set_option maxRecDepth 20000 in
set_option maxHeartbeats 1000000 in
theorem refBytes_any (x : Cls) (w : World) :
    Calls Try.prog 46 #[encC x] w fun e w' => ∃ A c, e = .returned (.slice A 256 c) ∧ w'.ownsRow w.heap.size 4 1 (.slice A 256 c) 256 ((bytesL x 256).map Value.bool) ∧ Chg Nothing w w' := by
  unfold encC
  go_enter Try.func46, Try.ntmps46
  go_wp2_with fail
  go_loopw [3, 4] (fun o i wr => ByInv x w o i wr) (fun _ i _ => 256 - (intOf i).toNat)
  case atStart => exact ⟨0, none, 0, by omega, rfl, rfl, World.ownsRow_nil _ _ _ _, Blk.new w _ _, (Chg.refl _ _).alloc _⟩
  case round =>
    obtain ⟨k, A, c, hk, rfl, rfl, hown, hB, hcr⟩ := hrel
    obtain ⟨r0, r1, r2, r3, f0, f1, f2, f3, hlt1⟩ := CBox.at_ hB
    have HB := hid hB; clear hB
    have HO := hid hown; clear hown
    have hlg : (k : Int) < 256 ∨ 256 ≤ (k : Int) := by omega
    rcases hlg with hlt | hge
    · have hwk : (k : Int) % 256 = k := by omega
      go_wp2_with fail
      refine (refHas_any x k wr (by omega)).mono ?_
      rintro e w3 ⟨rfl, hc⟩
      have HB3 := hid (show CBox w3 w.heap.size x from HB.out.chg hc id)
      have HO3 := hid (own_chg HO.out hc (fun _ _ h => h))
      have hcr3 := hcr.trans hc
      have hs3 := hc.size
      clear r0 r1 r2 r3 f0 f1 f2 f3 HB hc hcr HO
      go_wp2_with (at_builtin; refine append_one rfl _ _ 82 rfl (w.heap.size + 1) 4 (.bool false) 1 Try.underlying82 infoB rfl A c k _ rfl HO3.out (.bool (x.getLsbD k)) rfl rfl ?_ ?_ ?_ ?_)
      · omega
      · omega
      · omega
      intro A' c' w6 hown6 hc6 hA
      have hown7 := hid (show w6.ownsRow (w.heap.size + 1) 4 1 (.slice A' (k + 1) c') (k + 1) ((bytesL x (k + 1)).map Value.bool) from by rw [bytesL_succ, List.map_append]; exact hown6)
      have oa := own_of HO3.out
      go_wp2
      go_roundw
      case rel => exact ⟨k + 1, A', c', by omega, by go_num, rfl, hown7.out, HB3.out.chg hc6 (fun h => by have := oa _ h; omega), hcr3.then hc6 (fun i hi h => by have := oa _ h; omega)⟩
      case measure => simp [intOf]; omega
    · have hd : decide ((k : Int) < 256) = false := decide_eq_false (by omega)
      have hk256 : k = 256 := by omega
      have hres := hid (own_base_less HO.out (show w.heap.size ≤ w.heap.size + 1 by omega))
      have hkk := hid hk256
      clear hge hk hk256
      go_wp2
      go_ret
      have hh := hres.out
      rw [hkk.out] at hh
      exact ⟨A, c, by rw [hkk.out]; rfl, hh, hcr⟩
end Go.Proofs.Ytpndjehiacmngaa
