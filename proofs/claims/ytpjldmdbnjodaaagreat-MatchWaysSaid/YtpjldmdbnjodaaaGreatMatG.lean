/- Layer 17: alive. -/
import Derived.Test.YtpjldmdbnjodaaaGreatMatF
namespace Go.Proofs.YtpjldmdbnjodaaaGreat
open Go.RowKit
set_option linter.unusedVariables false
set_option linter.unusedSimpArgs false
set_option maxHeartbeats 16000000 in
set_option maxRecDepth 100000 in
theorem alive17 (w : World) : Calls Tryz.prog 10 #[] w fun e w' => e = .returned (.bool true) ∧ Chg Nothing w w' := by
  have hT := hid (leafText_any s17a 1 w (by decide))
  go_enter Tryz.func10, Tryz.ntmps10
  go_wp2_with fail
  refine hT.out.mono ?_
  rintro e w1 ⟨A1, c1, rfl, hR1, hc1⟩
  have hR := hid (fun (w' : World) (hc : Chg Nothing w1 w') => (show ClsRow (fun k => k < w1.heap.size) w' A1 2 c1 (textC s17a) from (hR1.mono (G := fun k => k < w1.heap.size) (fun k hk _ => hk)).chg hc (fun _ _ _ h => h)))
  have hB := hid (fun (w' : World) (hc : Chg Nothing w1 w') => (show ∀ k, k < w1.heap.size → k < w'.heap.size from fun k hk => Nat.lt_of_lt_of_le hk hc.size))
  have hX := hid (Blk.new w1 #[.slice A1 2 c1, .int .i64 1] 24)
  have hC1 := hid (hc1.alloc (.cells #[.slice A1 2 c1, .int .i64 1] 24))
  have hd1 := hid ((Chg.refl Nothing w1).alloc (.cells #[.slice A1 2 c1, .int .i64 1] 24))
  have hA := hid (fun (w' : World) (hc : Chg Nothing w1 w') => matchFind_any _ A1 2 c1 (textC s17a) 1 4 s17b 4 w' (hR.out w' hc) (hB.out w' hc) (by decide) (by decide) (by decide))
  have hBc := hid (fun (w' : World) (hc : Chg Nothing w1 w') => matchCounts_any _ A1 2 c1 (textC s17a) 1 5 s17b 0 w' (hR.out w' hc) (hB.out w' hc) (by decide) (by decide) (by decide))
  have hCb := hid (fun (w' : World) (hc : Chg Nothing w1 w') => matchBest_any _ A1 2 c1 (textC s17a) 1 s17b 4 w' (hR.out w' hc) (hB.out w' hc) (by decide) (by decide) (by decide))
  have hD := hid (fun (w' : World) (hc : Chg Nothing w1 w') => matchFind_any _ A1 2 c1 (textC s17a) 1 3 s17b 4 w' (hR.out w' hc) (hB.out w' hc) (by decide) (by decide) (by decide))
  have hEe := hid (fun (w' : World) (hc : Chg Nothing w1 w') => matchFind_any _ A1 2 c1 (textC s17a) 1 4 s17b 1 w' (hR.out w' hc) (hB.out w' hc) (by decide) (by decide) (by decide))
  have hT2 := hid (fun w => leafText_any s17a 0 w (by decide))
  have hG := hid (fun (w' : World) => matchBest_any (fun _ => False) none 0 0 [] 0 s17a 4 w' (RowAt.none _ _ _) (fun _ h => h.elim) rfl (by decide) (by decide))
  have hFc := hid (fun (w' : World) (A : Option Addr) (c : Nat) (h : ClsRow (fun k => k < w'.heap.size) w' A 2 c (textC s17a)) => matchCounts_any _ A 2 c (textC s17a) 0 2 s17a 4 w' h (fun _ h => h) (by decide) (by decide) (by decide))
  rw [dec17a.1, dec17a.2.1, dec17a.2.2] at hA
  rw [dec17b.1, dec17b.2.1, dec17b.2.2] at hBc
  rw [dec17c.1, dec17c.2] at hCb
  rw [dec17d] at hD
  rw [dec17e] at hEe
  rw [dec17f] at hFc
  rw [dec17g] at hG
  generalize mN (textC s17a) 1 (chooseM (textC s17a) 1 (s17b.size : Nat) 4) (s17b.size : Nat) 4 = numB at hCb
  generalize mF (textC s17a) 1 3 s17b 4 = ysD at hD
  generalize mN (textC s17a) 1 3 (s17b.size : Nat) 4 = numD at hD
  generalize mF (textC s17a) 1 4 s17b 1 = ysE at hEe
  generalize mN (textC s17a) 1 4 (s17b.size : Nat) 1 = numE at hEe
  generalize mC (textC s17a) 0 2 s17a 4 = ysF at hFc
  generalize mNc (textC s17a) 0 2 (s17a.size : Nat) 4 = numF at hFc
  generalize mF [] 0 (chooseM [] 0 (s17a.size : Nat) 4) s17a 4 = ysG at hG
  generalize mN [] 0 (chooseM [] 0 (s17a.size : Nat) 4) (s17a.size : Nat) 4 = numG at hG
  have x0 := hX.out.cell 0 (v := .slice A1 2 c1) rfl
  have x1 := hX.out.cell 1 (v := .int .i64 1) rfl
  have hcw := hid hc1
  clear hc1 hT hR1
  go_wp2_with fail
  refine (symFlat (hA.out _ hd1.out)).mono ?_
  rintro e w2 ⟨Af, cf, rfl, hOf, hc2⟩
  have hIf := hid (show IntsAt (fun _ => True) w2 Af 3 cf [0, 1, 2] from hOf.els.mono (fun _ _ _ => trivial))
  have hX2 := hid (hX.out.chg hc2 id)
  have hd2 := hid (hd1.out.trans hc2)
  clear hOf hc2 hA x0 x1 
  have x0 := hX2.out.cell 0 (v := .slice A1 2 c1) rfl
  have x1 := hX2.out.cell 1 (v := .int .i64 1) rfl
  go_wp2_with fail
  refine (symFlat (hBc.out _ hd2.out)).mono ?_
  rintro e w3 ⟨Ac, cc, rfl, hOc, hc3⟩
  have hIc := hid (show IntsAt (fun _ => True) w3 Ac 3 cc [0, 1, 1] from hOc.els.mono (fun _ _ _ => trivial))
  replace hIf := hid (hIf.out.chg hc3 (fun _ _ _ h => h))
  have hX3 := hid (hX2.out.chg hc3 id)
  have hd3 := hid (hd2.out.trans hc3)
  clear hOc hc3 hBc x0 x1 
  have x0 := hX3.out.cell 0 (v := .slice A1 2 c1) rfl
  have x1 := hX3.out.cell 1 (v := .int .i64 1) rfl
  go_wp2_with fail
  refine (symFlat (hCb.out _ hd3.out)).mono ?_
  rintro e w4 ⟨Ab, cb, rfl, hOb, hc4⟩
  have hIb := hid (show IntsAt (fun _ => True) w4 Ab 3 cb [0, 1, 2] from hOb.els.mono (fun _ _ _ => trivial))
  replace hIf := hid (hIf.out.chg hc4 (fun _ _ _ h => h))
  replace hIc := hid (hIc.out.chg hc4 (fun _ _ _ h => h))
  have hX4 := hid (hX3.out.chg hc4 id)
  have hd4 := hid (hd3.out.trans hc4)
  clear hOb hc4 hCb x0 x1 
  have x0 := hX4.out.cell 0 (v := .slice A1 2 c1) rfl
  have x1 := hX4.out.cell 1 (v := .int .i64 1) rfl
  go_wp2_with fail
  refine (symFlat (hD.out _ hd4.out)).mono ?_
  rintro e w5 ⟨Ad, cd, rfl, hOd, hc5⟩
  replace hIf := hid (hIf.out.chg hc5 (fun _ _ _ h => h))
  replace hIc := hid (hIc.out.chg hc5 (fun _ _ _ h => h))
  replace hIb := hid (hIb.out.chg hc5 (fun _ _ _ h => h))
  have hX5 := hid (hX4.out.chg hc5 id)
  have hd5 := hid (hd4.out.trans hc5)
  clear hOd hc5 hD x0 x1 
  have x0 := hX5.out.cell 0 (v := .slice A1 2 c1) rfl
  have x1 := hX5.out.cell 1 (v := .int .i64 1) rfl
  go_wp2_with fail
  refine (symFlat (hEe.out _ hd5.out)).mono ?_
  rintro e w6 ⟨Ae, ce, rfl, hOe, hc6⟩
  replace hIf := hid (hIf.out.chg hc6 (fun _ _ _ h => h))
  replace hIc := hid (hIc.out.chg hc6 (fun _ _ _ h => h))
  replace hIb := hid (hIb.out.chg hc6 (fun _ _ _ h => h))
  have hX6 := hid (hX5.out.chg hc6 id)
  have hd6 := hid (hd5.out.trans hc6)
  clear hOe hc6 hEe x0 x1 
  go_wp2_with fail
  refine (hT2.out _).mono ?_
  rintro e w7 ⟨A7, c7, rfl, hR7, hc7⟩
  replace hIf := hid (hIf.out.chg hc7 (fun _ _ _ h => h))
  replace hIc := hid (hIc.out.chg hc7 (fun _ _ _ h => h))
  replace hIb := hid (hIb.out.chg hc7 (fun _ _ _ h => h))
  have hd7 := hid (hd6.out.trans hc7)
  have hR7h := hid (show ClsRow (fun k => k < w7.heap.size) w7 A7 2 c7 (textC s17a) from hR7.mono (fun k hk _ => hk))
  clear hR7 hc7
  go_wp2_with fail
  refine (symFlat (hFc.out _ _ _ hR7h.out)).mono ?_
  rintro e w8 ⟨A8, c8, rfl, hO8, hc8⟩
  replace hIf := hid (hIf.out.chg hc8 (fun _ _ _ h => h))
  replace hIc := hid (hIc.out.chg hc8 (fun _ _ _ h => h))
  replace hIb := hid (hIb.out.chg hc8 (fun _ _ _ h => h))
  have hd8 := hid (hd7.out.trans hc8)
  clear hO8 hc8 hFc hR7h
  go_wp2_with fail
  refine (symFlat (hG.out _)).mono ?_
  rintro e w9 ⟨A9, c9, rfl, hO9, hc9⟩
  replace hIf := hid (hIf.out.chg hc9 (fun _ _ _ h => h))
  replace hIc := hid (hIc.out.chg hc9 (fun _ _ _ h => h))
  replace hIb := hid (hIb.out.chg hc9 (fun _ _ _ h => h))
  have hd9 := hid (hd8.out.trans hc9)
  clear hO9 hc9 hG
  go_wp2_with fail
  refine (same_intsM (hIf.out.chg ((Chg.refl Nothing w9).alloc _) (fun _ _ _ h => h)) (lit012m w9)).mono ?_
  rintro e wa ⟨rfl, hca'⟩
  have hca := ((Chg.refl Nothing w9).alloc (.cells #[.int .i64 0, .int .i64 1, .int .i64 2] 3)).trans hca'
  replace hIf := hid (hIf.out.chg hca (fun _ _ _ h => h))
  replace hIc := hid (hIc.out.chg hca (fun _ _ _ h => h))
  replace hIb := hid (hIb.out.chg hca (fun _ _ _ h => h))
  have hda := hid (hd9.out.trans hca)
  clear hca hca'
  go_wp2_with fail
  refine (same_intsM (hIc.out.chg ((Chg.refl Nothing wa).alloc _) (fun _ _ _ h => h)) (lit011m wa)).mono ?_
  rintro e wb ⟨rfl, hcb'⟩
  have hcb := ((Chg.refl Nothing wa).alloc (.cells #[.int .i64 0, .int .i64 1, .int .i64 1] 3)).trans hcb'
  replace hIf := hid (hIf.out.chg hcb (fun _ _ _ h => h))
  replace hIc := hid (hIc.out.chg hcb (fun _ _ _ h => h))
  replace hIb := hid (hIb.out.chg hcb (fun _ _ _ h => h))
  have hdb := hid (hda.out.trans hcb)
  clear hcb hcb'
  go_wp2_with fail
  refine (same_intsM hIb.out hIf.out).mono ?_
  rintro e wc ⟨rfl, hcc⟩
  have hdc := hid (hdb.out.trans hcc)
  clear hcc
  go_wp2
  go_ret
  exact ⟨rfl, hcw.out.trans hdc.out⟩
end Go.Proofs.YtpjldmdbnjodaaaGreat
