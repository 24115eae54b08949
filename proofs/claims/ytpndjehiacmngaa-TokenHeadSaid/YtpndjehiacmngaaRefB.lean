/- Layer 6 as the document has it: Make, bytes. -/
import Derived.Test.YtpndjehiacmngaaRefA
namespace Go.Proofs.Ytpndjehiacmngaa
open Go.RowKit
set_option linter.unusedVariables false

/-- Four words. -/
def cellsZ (Z : Nat → Int) : Array Value := #[.int .u64 (Z 0), .int .u64 (Z 1), .int .u64 (Z 2), .int .u64 (Z 3)]
def updZ (Z : Nat → Int) (k : Nat) (z : Int) : Nat → Int := fun j => if j = k then z else Z j
abbrev ZBox (w : World) (b : Nat) (Z : Nat → Int) : Prop := Blk w b (cellsZ Z) 35
structure ZAt (w : World) (b : Nat) (Z : Nat → Int) : Prop where
  r0 : w.cell? ⟨b, 0, none⟩ = some (.int .u64 (Z 0))
  r1 : w.cell? ⟨b, 1, none⟩ = some (.int .u64 (Z 1))
  r2 : w.cell? ⟨b, 2, none⟩ = some (.int .u64 (Z 2))
  r3 : w.cell? ⟨b, 3, none⟩ = some (.int .u64 (Z 3))
  f0 : w.frozen? ⟨b, 0, none⟩ = false
  f1 : w.frozen? ⟨b, 1, none⟩ = false
  f2 : w.frozen? ⟨b, 2, none⟩ = false
  f3 : w.frozen? ⟨b, 3, none⟩ = false
  lt : b < w.heap.size
theorem ZBox.at_ {w : World} {b : Nat} {Z : Nat → Int} (h : ZBox w b Z) : ZAt w b Z :=
  ⟨h.cell 0 rfl, h.cell 1 rfl, h.cell 2 rfl, h.cell 3 rfl, h.free 0, h.free 1, h.free 2, h.free 3, h.lt⟩
theorem cellsZ_set (Z : Nat → Int) (k : Nat) (z : Int) (hk : k < 4) : (cellsZ Z).setIfInBounds k (.int .u64 z) = cellsZ (updZ Z k z) := by
  have : k = 0 ∨ k = 1 ∨ k = 2 ∨ k = 3 := by omega
  rcases this with rfl | rfl | rfl | rfl <;> rfl
theorem ZBox.put {w : World} {b : Nat} {Z : Nat → Int} (h : ZBox w b Z) {k : Nat} (hk : k < 4) (z : Int) : ZBox (w.setCell ⟨b, k, none⟩ (.int .u64 z)) b (updZ Z k z) := by
  unfold ZBox; rw [← cellsZ_set Z k z hk]; exact Blk.set h k _
theorem updZ_self (Z : Nat → Int) (k : Nat) (z : Int) : updZ Z k z k = z := by unfold updZ; simp
theorem updZ_upd (Z : Nat → Int) (k : Nat) (z z' : Int) : updZ (updZ Z k z) k z' = updZ Z k z' := by funext j; unfold updZ; split <;> rfl
def bitsC (bs : List Bool) : Cls := setC fun i => bs.getD i false

def MkOut (X : Cls) (w : World) (i : Value) (wr : World) : Prop :=
  ∃ (k : Nat) (Z : Nat → Int), k ≤ 4 ∧ i = .int .i64 k ∧ Hid (∀ j, j < k → Z j = wd X j) ∧ Hid (∀ j, k ≤ j → Z j = 0) ∧ ZBox wr (w.heap.size + 1) Z ∧ ZBox wr w.heap.size (fun _ => 0) ∧ Chg Nothing w wr
def MkIn (X : Cls) (w : World) (k : Nat) (Z : Nat → Int) (i : Value) (wr : World) : Prop :=
  ∃ (m : Nat) (z : Int), m ≤ 64 ∧ i = .int .i64 ((m : Int) - 1) ∧ 0 ≤ z ∧ z ≤ 18446744073709551615 ∧ (m = 0 ∨ z ≤ 9223372036854775807) ∧ Hid (z = wd X k / 2 ^ m) ∧ ZBox wr (w.heap.size + 1) (updZ Z k z) ∧ ZBox wr w.heap.size (fun _ => 0) ∧ Chg Nothing w wr

theorem wd_step (bs : List Bool) (k m : Nat) (hm : m < 64) (hk : k < 4) : 2 * (wd (bitsC bs) k / 2 ^ (m + 1)) + (if bs.getD (64 * k + m) false = true then 1 else 0) = wd (bitsC bs) k / 2 ^ m := by
  have h4 := wdN_bit (bitsC bs) k m
  rw [Nat.testBit_eq_decide_div_mod_eq] at h4
  unfold bitsC at h4
  rw [setC_get _ (by omega)] at h4
  simp only [hm, decide_true, Bool.true_and] at h4
  rw [← h4, ← div_again, wd_eq]
  unfold bitsC
  generalize wdN (setC fun i => bs.getD i false) k = v
  rw [show ((v : Nat) : Int) / 2 ^ m = ((v / 2 ^ m : Nat) : Int) from by norm_cast]
  generalize v / 2 ^ m = u
  by_cases h : u % 2 = 1
  · rw [if_pos (by simp [h])]; omega
  · rw [if_neg (by simp [h])]; omega
theorem wd_half (X : Cls) (k m : Nat) (hm : 0 < m) : wd X k / 2 ^ m ≤ 9223372036854775807 := by
  obtain ⟨m, rfl⟩ : ∃ n, m = n + 1 := ⟨m - 1, by omega⟩
  rw [← div_again]
  have h1 := wd_hi X k
  have h0 := wd_lo X k
  have h2 : wd X k / 2 ^ m ≤ wd X k := Int.ediv_le_self _ h0
  omega
theorem wd_top (X : Cls) (k : Nat) : wd X k / 2 ^ 64 = 0 := Int.ediv_eq_zero_of_lt (wd_lo X k) (by have := wd_hi X k; omega)

set_option maxRecDepth 20000 in
set_option maxHeartbeats 2000000 in
theorem refMake_any (F : Nat → Prop) (A : Option Addr) (c : Nat) (bs : List Bool) (w : World) (H : BoolsAt F w A 256 c bs) :
    Calls Try.prog 70 #[.slice A 256 c] w fun e w' => e = .returned (encC (bitsC bs)) ∧ Chg Nothing w w' := by
  have HH := hid H
  clear H
  go_enter Try.func70, Try.ntmps70
  go_wp2_with fail
  go_loopw [4] (fun i wr => MkOut (bitsC bs) w i wr) (fun i _ => 4 - (intOf i).toNat)
  case atStart =>
    refine ⟨0, fun _ => 0, by omega, rfl, hid (fun j hj => by omega), hid (fun _ _ => rfl), ?_, (Blk.new w _ _).alloc _, ((Chg.refl _ _).alloc _).alloc _⟩
    have := Blk.new (w.alloc (.cells (cellsZ fun _ => 0) 35)) (cellsZ fun _ => 0) 35
    rw [World.size_alloc] at this
    exact this
  case round =>
    obtain ⟨k, Z, hk, rfl, hZ1, hZ0, hB, hB0, hcr⟩ := hrel
    have HB := hid hB; clear hB
    have HB0 := hid hB0; clear hB0
    have hq : k = 0 ∨ k = 1 ∨ k = 2 ∨ k = 3 ∨ k = 4 := by omega
    rcases hq with rfl | rfl | rfl | rfl | rfl
    · go_wp2
      go_loopw [5] (fun i wj => MkIn (bitsC bs) w 0 Z i wj) (fun i _ => (intOf i + 1).toNat)
      case atStart =>
        refine ⟨64, 0, by omega, rfl, by omega, by omega, .inr (by omega), hid (wd_top _ _).symm, ?_, HB0.out, hcr⟩
        have e : updZ Z 0 0 = Z := by funext j; unfold updZ; split; { subst_vars; exact (hZ0.out _ (by omega)).symm }; rfl
        rw [e]; exact HB.out
      case round =>
        obtain ⟨m, z, hm, rfl, hz0, hz1, hz2, hz, hB, hB0, hcj⟩ := hrel
        obtain ⟨r0, r1, r2, r3, f0, f1, f2, f3, hlt1⟩ := ZBox.at_ hB
        have HBj := hid hB; clear hB
        have HB0j := hid hB0; clear hB0
        rw [updZ_self] at r0
        rcases Nat.eq_zero_or_pos m with rfl | hpos
        · go_wp2
          go_roundw
          case rel =>
            refine ⟨1, updZ Z 0 z, by omega, rfl, hid (fun j hj => ?_), hid (fun j hj => ?_), HBj.out, HB0j.out, hcj⟩
            · unfold updZ
              by_cases e : j = 0
              · subst e; rw [if_pos rfl, hz.out]; simp
              · rw [if_neg e]; exact hZ1.out j (by omega)
            · unfold updZ; rw [if_neg (by omega)]; exact hZ0.out j (by omega)
          case measure => simp [intOf]
        · obtain ⟨m, rfl⟩ : ∃ n, m = n + 1 := ⟨m - 1, by omega⟩
          rw [show ((m + 1 : Nat) : Int) - 1 = (m : Int) from by omega]
          have hz2' : z ≤ 9223372036854775807 := by omega
          obtain ⟨g, o, rfl, hFg, hg, hcell⟩ := HH.out.at_ (k := m) (by omega)
          have hcell := (World.cell?_of_block (w := w) (hcj.block g hg id)).trans hcell
          have hne : g ≠ w.heap.size + 1 := by omega
          cases hv : bs.getD (m) false with
          | true =>
            rw [hv] at hcell
            go_wp2
            have hzz : 2 * z + 1 = wd (bitsC bs) 0 / 2 ^ m := by
              have := wd_step bs 0 m (by omega) (by omega)
              rw [show 64 * 0 + m = m from by omega, hv, ← hz.out] at this
              simpa using this
            go_roundw
            case rel => exact ⟨m, 2 * z + 1, by omega, rfl, by omega, by omega, (Nat.eq_zero_or_pos m).imp id (fun h => hzz ▸ wd_half _ _ _ h), hid hzz, by have := ((HBj.out.put (k := 0) (by omega) (2 * z)).put (k := 0) (by omega) (2 * z + 1)); rwa [updZ_upd, updZ_upd] at this, (HB0j.out.other (by simp) _).other (by simp) _, (hcj.setNew (by omega) _ _).setNew (by omega) _ _⟩
            case measure => simp [intOf]
          | false =>
            rw [hv] at hcell
            go_wp2
            have hzz : 2 * z = wd (bitsC bs) 0 / 2 ^ m := by
              have := wd_step bs 0 m (by omega) (by omega)
              rw [show 64 * 0 + m = m from by omega, hv, ← hz.out] at this
              simpa using this
            go_roundw
            case rel => exact ⟨m, 2 * z, by omega, rfl, by omega, by omega, (Nat.eq_zero_or_pos m).imp id (fun h => hzz ▸ wd_half _ _ _ h), hid hzz, by have := (HBj.out.put (k := 0) (by omega) (2 * z)); rwa [updZ_upd] at this, HB0j.out.other (by simp) _, hcj.setNew (by omega) _ _⟩
            case measure => simp [intOf]
    · go_wp2
      go_loopw [5] (fun i wj => MkIn (bitsC bs) w 1 Z i wj) (fun i _ => (intOf i + 1).toNat)
      case atStart =>
        refine ⟨64, 0, by omega, rfl, by omega, by omega, .inr (by omega), hid (wd_top _ _).symm, ?_, HB0.out, hcr⟩
        have e : updZ Z 1 0 = Z := by funext j; unfold updZ; split; { subst_vars; exact (hZ0.out _ (by omega)).symm }; rfl
        rw [e]; exact HB.out
      case round =>
        obtain ⟨m, z, hm, rfl, hz0, hz1, hz2, hz, hB, hB0, hcj⟩ := hrel
        obtain ⟨r0, r1, r2, r3, f0, f1, f2, f3, hlt1⟩ := ZBox.at_ hB
        have HBj := hid hB; clear hB
        have HB0j := hid hB0; clear hB0
        rw [updZ_self] at r1
        rcases Nat.eq_zero_or_pos m with rfl | hpos
        · go_wp2
          go_roundw
          case rel =>
            refine ⟨2, updZ Z 1 z, by omega, rfl, hid (fun j hj => ?_), hid (fun j hj => ?_), HBj.out, HB0j.out, hcj⟩
            · unfold updZ
              by_cases e : j = 1
              · subst e; rw [if_pos rfl, hz.out]; simp
              · rw [if_neg e]; exact hZ1.out j (by omega)
            · unfold updZ; rw [if_neg (by omega)]; exact hZ0.out j (by omega)
          case measure => simp [intOf]
        · obtain ⟨m, rfl⟩ : ∃ n, m = n + 1 := ⟨m - 1, by omega⟩
          rw [show ((m + 1 : Nat) : Int) - 1 = (m : Int) from by omega]
          have hz2' : z ≤ 9223372036854775807 := by omega
          obtain ⟨g, o, rfl, hFg, hg, hcell⟩ := HH.out.at_ (k := 64 + m) (by omega)
          have hcell := (World.cell?_of_block (w := w) (hcj.block g hg id)).trans hcell
          have hne : g ≠ w.heap.size + 1 := by omega
          cases hv : bs.getD (64 + m) false with
          | true =>
            rw [hv] at hcell
            go_wp2
            have hzz : 2 * z + 1 = wd (bitsC bs) 1 / 2 ^ m := by
              have := wd_step bs 1 m (by omega) (by omega)
              rw [show 64 * 1 + m = 64 + m from by omega, hv, ← hz.out] at this
              simpa using this
            go_roundw
            case rel => exact ⟨m, 2 * z + 1, by omega, rfl, by omega, by omega, (Nat.eq_zero_or_pos m).imp id (fun h => hzz ▸ wd_half _ _ _ h), hid hzz, by have := ((HBj.out.put (k := 1) (by omega) (2 * z)).put (k := 1) (by omega) (2 * z + 1)); rwa [updZ_upd, updZ_upd] at this, (HB0j.out.other (by simp) _).other (by simp) _, (hcj.setNew (by omega) _ _).setNew (by omega) _ _⟩
            case measure => simp [intOf]
          | false =>
            rw [hv] at hcell
            go_wp2
            have hzz : 2 * z = wd (bitsC bs) 1 / 2 ^ m := by
              have := wd_step bs 1 m (by omega) (by omega)
              rw [show 64 * 1 + m = 64 + m from by omega, hv, ← hz.out] at this
              simpa using this
            go_roundw
            case rel => exact ⟨m, 2 * z, by omega, rfl, by omega, by omega, (Nat.eq_zero_or_pos m).imp id (fun h => hzz ▸ wd_half _ _ _ h), hid hzz, by have := (HBj.out.put (k := 1) (by omega) (2 * z)); rwa [updZ_upd] at this, HB0j.out.other (by simp) _, hcj.setNew (by omega) _ _⟩
            case measure => simp [intOf]
    · go_wp2
      go_loopw [5] (fun i wj => MkIn (bitsC bs) w 2 Z i wj) (fun i _ => (intOf i + 1).toNat)
      case atStart =>
        refine ⟨64, 0, by omega, rfl, by omega, by omega, .inr (by omega), hid (wd_top _ _).symm, ?_, HB0.out, hcr⟩
        have e : updZ Z 2 0 = Z := by funext j; unfold updZ; split; { subst_vars; exact (hZ0.out _ (by omega)).symm }; rfl
        rw [e]; exact HB.out
      case round =>
        obtain ⟨m, z, hm, rfl, hz0, hz1, hz2, hz, hB, hB0, hcj⟩ := hrel
        obtain ⟨r0, r1, r2, r3, f0, f1, f2, f3, hlt1⟩ := ZBox.at_ hB
        have HBj := hid hB; clear hB
        have HB0j := hid hB0; clear hB0
        rw [updZ_self] at r2
        rcases Nat.eq_zero_or_pos m with rfl | hpos
        · go_wp2
          go_roundw
          case rel =>
            refine ⟨3, updZ Z 2 z, by omega, rfl, hid (fun j hj => ?_), hid (fun j hj => ?_), HBj.out, HB0j.out, hcj⟩
            · unfold updZ
              by_cases e : j = 2
              · subst e; rw [if_pos rfl, hz.out]; simp
              · rw [if_neg e]; exact hZ1.out j (by omega)
            · unfold updZ; rw [if_neg (by omega)]; exact hZ0.out j (by omega)
          case measure => simp [intOf]
        · obtain ⟨m, rfl⟩ : ∃ n, m = n + 1 := ⟨m - 1, by omega⟩
          rw [show ((m + 1 : Nat) : Int) - 1 = (m : Int) from by omega]
          have hz2' : z ≤ 9223372036854775807 := by omega
          obtain ⟨g, o, rfl, hFg, hg, hcell⟩ := HH.out.at_ (k := 128 + m) (by omega)
          have hcell := (World.cell?_of_block (w := w) (hcj.block g hg id)).trans hcell
          have hne : g ≠ w.heap.size + 1 := by omega
          cases hv : bs.getD (128 + m) false with
          | true =>
            rw [hv] at hcell
            go_wp2
            have hzz : 2 * z + 1 = wd (bitsC bs) 2 / 2 ^ m := by
              have := wd_step bs 2 m (by omega) (by omega)
              rw [show 64 * 2 + m = 128 + m from by omega, hv, ← hz.out] at this
              simpa using this
            go_roundw
            case rel => exact ⟨m, 2 * z + 1, by omega, rfl, by omega, by omega, (Nat.eq_zero_or_pos m).imp id (fun h => hzz ▸ wd_half _ _ _ h), hid hzz, by have := ((HBj.out.put (k := 2) (by omega) (2 * z)).put (k := 2) (by omega) (2 * z + 1)); rwa [updZ_upd, updZ_upd] at this, (HB0j.out.other (by simp) _).other (by simp) _, (hcj.setNew (by omega) _ _).setNew (by omega) _ _⟩
            case measure => simp [intOf]
          | false =>
            rw [hv] at hcell
            go_wp2
            have hzz : 2 * z = wd (bitsC bs) 2 / 2 ^ m := by
              have := wd_step bs 2 m (by omega) (by omega)
              rw [show 64 * 2 + m = 128 + m from by omega, hv, ← hz.out] at this
              simpa using this
            go_roundw
            case rel => exact ⟨m, 2 * z, by omega, rfl, by omega, by omega, (Nat.eq_zero_or_pos m).imp id (fun h => hzz ▸ wd_half _ _ _ h), hid hzz, by have := (HBj.out.put (k := 2) (by omega) (2 * z)); rwa [updZ_upd] at this, HB0j.out.other (by simp) _, hcj.setNew (by omega) _ _⟩
            case measure => simp [intOf]
    · go_wp2
      go_loopw [5] (fun i wj => MkIn (bitsC bs) w 3 Z i wj) (fun i _ => (intOf i + 1).toNat)
      case atStart =>
        refine ⟨64, 0, by omega, rfl, by omega, by omega, .inr (by omega), hid (wd_top _ _).symm, ?_, HB0.out, hcr⟩
        have e : updZ Z 3 0 = Z := by funext j; unfold updZ; split; { subst_vars; exact (hZ0.out _ (by omega)).symm }; rfl
        rw [e]; exact HB.out
      case round =>
        obtain ⟨m, z, hm, rfl, hz0, hz1, hz2, hz, hB, hB0, hcj⟩ := hrel
        obtain ⟨r0, r1, r2, r3, f0, f1, f2, f3, hlt1⟩ := ZBox.at_ hB
        have HBj := hid hB; clear hB
        have HB0j := hid hB0; clear hB0
        rw [updZ_self] at r3
        rcases Nat.eq_zero_or_pos m with rfl | hpos
        · go_wp2
          go_roundw
          case rel =>
            refine ⟨4, updZ Z 3 z, by omega, rfl, hid (fun j hj => ?_), hid (fun j hj => ?_), HBj.out, HB0j.out, hcj⟩
            · unfold updZ
              by_cases e : j = 3
              · subst e; rw [if_pos rfl, hz.out]; simp
              · rw [if_neg e]; exact hZ1.out j (by omega)
            · unfold updZ; rw [if_neg (by omega)]; exact hZ0.out j (by omega)
          case measure => simp [intOf]
        · obtain ⟨m, rfl⟩ : ∃ n, m = n + 1 := ⟨m - 1, by omega⟩
          rw [show ((m + 1 : Nat) : Int) - 1 = (m : Int) from by omega]
          have hz2' : z ≤ 9223372036854775807 := by omega
          obtain ⟨g, o, rfl, hFg, hg, hcell⟩ := HH.out.at_ (k := 192 + m) (by omega)
          have hcell := (World.cell?_of_block (w := w) (hcj.block g hg id)).trans hcell
          have hne : g ≠ w.heap.size + 1 := by omega
          cases hv : bs.getD (192 + m) false with
          | true =>
            rw [hv] at hcell
            go_wp2
            have hzz : 2 * z + 1 = wd (bitsC bs) 3 / 2 ^ m := by
              have := wd_step bs 3 m (by omega) (by omega)
              rw [show 64 * 3 + m = 192 + m from by omega, hv, ← hz.out] at this
              simpa using this
            go_roundw
            case rel => exact ⟨m, 2 * z + 1, by omega, rfl, by omega, by omega, (Nat.eq_zero_or_pos m).imp id (fun h => hzz ▸ wd_half _ _ _ h), hid hzz, by have := ((HBj.out.put (k := 3) (by omega) (2 * z)).put (k := 3) (by omega) (2 * z + 1)); rwa [updZ_upd, updZ_upd] at this, (HB0j.out.other (by simp) _).other (by simp) _, (hcj.setNew (by omega) _ _).setNew (by omega) _ _⟩
            case measure => simp [intOf]
          | false =>
            rw [hv] at hcell
            go_wp2
            have hzz : 2 * z = wd (bitsC bs) 3 / 2 ^ m := by
              have := wd_step bs 3 m (by omega) (by omega)
              rw [show 64 * 3 + m = 192 + m from by omega, hv, ← hz.out] at this
              simpa using this
            go_roundw
            case rel => exact ⟨m, 2 * z, by omega, rfl, by omega, by omega, (Nat.eq_zero_or_pos m).imp id (fun h => hzz ▸ wd_half _ _ _ h), hid hzz, by have := (HBj.out.put (k := 3) (by omega) (2 * z)); rwa [updZ_upd] at this, HB0j.out.other (by simp) _, hcj.setNew (by omega) _ _⟩
            case measure => simp [intOf]
    · have hB : CBox wr (w.heap.size + 1) (bitsC bs) := by
        have := HB.out
        unfold ZBox at this
        rwa [show cellsZ Z = cellsC (bitsC bs) from by unfold cellsZ cellsC; rw [hZ1.out 0 (by omega), hZ1.out 1 (by omega), hZ1.out 2 (by omega), hZ1.out 3 (by omega)]] at this
      have hB0 : CBox wr w.heap.size 0 := by
        have := HB0.out
        unfold ZBox at this
        rwa [show cellsZ (fun _ => 0) = cellsC 0 from by rw [cellsC_zero]; rfl] at this
      clear HB HB0
      obtain ⟨r0, r1, r2, r3, f0, f1, f2, f3, hlt1⟩ := CBox.at_ hB
      obtain ⟨s0, s1, s2, s3, g0, g1, g2, g3, hlt2⟩ := CBox.at_ hB0
      have HB0 := hid hB0; clear hB0 hB
      go_wp2
      have hout := HB0.out.put (bitsC bs)
      obtain ⟨t0, t1, t2, t3, _⟩ := CBox.at_ hout
      refine bodyPost_ret (v := encC (bitsC bs)) ?_ rfl ⟨rfl, hcr.putNew (Nat.le_refl _) _⟩
      show (results Try.f70 _).run Try.prog (putC wr w.heap.size (bitsC bs)) = _
      simp [results, Try.results70, go_sem, encC, t0, t1, t2, t3]
      rfl
end Go.Proofs.Ytpndjehiacmngaa
