/- Layer 12: alive. -/
import Derived.Test.YtlpgbnbklddfaaaBunV
namespace Go.Proofs.Ytlpgbnbklddfaaa
open Go.RowKit
set_option linter.unusedVariables false
set_option maxHeartbeats 16000000 in
set_option maxRecDepth 100000 in
theorem alive12 (w : World) : Calls Try.prog 10 #[] w fun e w' => e = .returned (.bool true) ∧ Chg Nothing w w' := by
  have hT := hid (leafText_any s12a 1 w (by decide))
  go_enter Try.func10, Try.ntmps10
  go_wp2_with fail
  refine hT.out.mono ?_
  rintro e w1 ⟨A1, c1, rfl, hR1, hc1⟩
  have hR := hid (fun (w' : World) (hc : Chg Nothing w1 w') => hR1.chg hc (fun _ _ _ h => h))
  have hX := Blk.new w1 #[.slice A1 4 c1, .int .i64 1] 24
  have hC1 := hid (hc1.alloc (.cells #[.slice A1 4 c1, .int .i64 1] 24))
  have hd1 := hid ((Chg.refl Nothing w1).alloc (.cells #[.slice A1 4 c1, .int .i64 1] 24))
  have x0 := hX.cell 0 (v := .slice A1 4 c1) rfl
  have x1 := hX.cell 1 (v := .int .i64 1) rfl
  have hlx := hX.lt
  have hPa := hid (fun (w' : World) (hc : Chg Nothing w1 w') => splitParts_any _ A1 4 c1 (textC s12a) 1 2 w' (hR.out w' hc) (by decide) (by decide))
  have hCo := hid (fun (w' : World) (hc : Chg Nothing w1 w') => splitCounts_any _ A1 4 c1 (textC s12a) 1 s12b 8 2 w' (hR.out w' hc) (by decide) (by decide) (by decide))
  have hFi := hid (fun (w' : World) (hc : Chg Nothing w1 w') => splitFind_any _ A1 4 c1 (textC s12a) 1 s12b 8 9 w' (hR.out w' hc) (by decide) (by decide) (by decide))
  have hCb := hid (fun (w' : World) (B : Nat) (h : ClsRow (fun _ => True) w' (some ⟨B, 0, none⟩) 1 1 [ofC s12c]) => splitCounts_any _ (some ⟨B, 0, none⟩) 1 1 [ofC s12c] 0 s12d 1 1 w' h rfl (by decide) (by decide))
  have hCe := hid (fun (w' : World) (hc : Chg Nothing w1 w') => splitCounts_any _ A1 4 c1 (textC s12a) 1 s12b 3 1 w' (hR.out w' hc) (by decide) (by decide) (by decide))
  have hO0 := hid (fun w' => classOfL s12c w' (by decide))
  have hO1 := hid (fun w' => classOfL s12d w' (by decide))
  have hO2 := hid (fun w' => classOfL s12f w' (by decide))
  rw [dec12b.1, dec12b.2.1, dec12b.2.2] at hCo
  rw [dec12c.1, dec12c.2.1, dec12c.2.2] at hFi
  rw [dec12d.1, dec12d.2.1, dec12d.2.2] at hCb
  rw [dec12e.1, dec12e.2.1, dec12e.2.2] at hCe
  rw [dec12a.1] at hPa
  have hr2 := hid dec12a.2.1
  have hr1 := hid dec12a.2.2
  have hRa := hid (fun (w' : World) (hc : Chg Nothing w1 w') (F2 : Nat → Prop) (A3 : Option Addr) (c3 : Nat) (h : ClsRow F2 w' A3 2 c3 (rareL (textC s12a) 2)) => (splitRare_any _ F2 A1 4 c1 (textC s12a) 1 s12e A3 2 c3 (rareL (textC s12a) 2) w' (hR.out w' hc) (by decide) h hr2.out (by decide) (by decide)).mono (R' := fun e w'' => ∃ g, e = .returned (.slice (some ⟨g, 0, none⟩) 2 2) ∧ IntsAt (fun _ => True) w'' (some ⟨g, 0, none⟩) 2 2 [2, 0] ∧ Chg Nothing w' w'') (fun e w'' ⟨g, he, hg, hI, hc⟩ => by
    rw [dec12f.1] at he hI
    have hI2 := (IBlk.own hI (Nat.zero_le g) (by decide)).els
    rw [dec12f.2] at hI2
    exact ⟨g, he, hI2.mono (fun _ _ _ => trivial), hc⟩))
  rw [hr2.out] at hPa
  generalize rareL (textC s12a) 2 = rl at hPa hr2 hr1 hRa
  clear hX hc1 hT hR1
  go_wp2_with fail
  refine (hPa.out _ hd1.out).mono ?_
  rintro e w2 ⟨Af, cf, Ar, cr, rfl, hOf, hOr, hc2⟩
  obtain ⟨gf, of, rfl, -, hgf, f0, f1, f2, f3⟩ := ClsRow.four (RowAt.of_own hOf) rfl (show 0 < 1 by decide)
  obtain ⟨gr, or, rfl, -, hgr, r0, r1, r2, r3⟩ := ClsRow.four (RowAt.of_own hOr) hr2.out (show 1 < 2 by decide)
  rw [hr1.out] at r0 r1 r2 r3
  simp only [Nat.zero_mul, Nat.add_zero, Nat.one_mul] at f0 f1 f2 f3 r0 r1 r2 r3
  have hOrh := hid (RowAt.of_own hOr)
  have hcf := (RowAt.of_own hOf).le
  have hcfm := (RowAt.of_own hOf).max
  have hcrl := (RowAt.of_own hOr).le
  have hcrm := (RowAt.of_own hOr).max
  rw [show [ofC s12d].getD 0 0 = ofC s12d from rfl] at f0 f1 f2 f3
  have y0 := (hc2.cells.1 _ _ hlx).trans x0
  have y1 := (hc2.cells.1 _ _ hlx).trans x1
  have hly := Nat.lt_of_lt_of_le hlx hc2.size
  have hSt := hid (fun (m : Calm w2) => (⟨Calm.cell hly y0 m, Calm.cell hly y1 m, ⟨Calm.cell hgf f0 m, Calm.cell hgf f1 m, Calm.cell hgf f2 m, Calm.cell hgf f3 m⟩, Calm.cell hgr r0 m, Calm.cell hgr r1 m, Calm.cell hgr r2 m, Calm.cell hgr r3 m⟩ : (m.val.cell? ⟨w1.heap.size, 0, none⟩ = some (.slice A1 4 c1) ∧ m.val.cell? ⟨w1.heap.size, 1, none⟩ = some (.int .i64 1) ∧ (m.val.cell? ⟨gf, of, none⟩ = some (.int .u64 (wd (ofC s12d) 0)) ∧ m.val.cell? ⟨gf, of + 1, none⟩ = some (.int .u64 (wd (ofC s12d) 1)) ∧ m.val.cell? ⟨gf, of + 2, none⟩ = some (.int .u64 (wd (ofC s12d) 2)) ∧ m.val.cell? ⟨gf, of + 3, none⟩ = some (.int .u64 (wd (ofC s12d) 3))) ∧ m.val.cell? ⟨gr, or + 4, none⟩ = some (.int .u64 (wd (ofC s12f) 0)) ∧ m.val.cell? ⟨gr, or + 4 + 1, none⟩ = some (.int .u64 (wd (ofC s12f) 1)) ∧ m.val.cell? ⟨gr, or + 4 + 2, none⟩ = some (.int .u64 (wd (ofC s12f) 2)) ∧ m.val.cell? ⟨gr, or + 4 + 3, none⟩ = some (.int .u64 (wd (ofC s12f) 3)))))
  have hq2 := hid (Chg.refl Nothing w2)
  have hd2 := hid (hd1.out.trans hc2)
  have hCw := hid (hC1.out.trans hc2)
  clear x0 x1 f0 f1 f2 f3 r0 r1 r2 r3 hOf hOr hc2 hd1 hlx hgf hgr hPa hr1 hr2 hC1 hly
  have x0 := y0
  have x1 := y1
  clear y0 y1
  go_wp2_with fail
  refine (hCo.out _ hd2.out).mono ?_
  rintro e w3 ⟨⟨A3, c3, rfl, hO3⟩, hc3⟩
  have hI3 := hid (show IntsAt (fun _ => True) w3 A3 4 c3 [0, 4, 4, 0] from hO3.els.mono (fun _ _ _ => trivial))
  have hq3 := hid (hq2.out.trans hc3)
  have hd3 := hid (hd2.out.trans hc3)
  have x0 := (hSt.out ⟨_, hq3.out⟩).1
  have x1 := (hSt.out ⟨_, hq3.out⟩).2.1
  dsimp only at x0 x1
  clear hc3 hO3 hd2 hq2
  have hk3 := hid (Chg.refl Nothing w3)
  clear hCo
  go_wp2_with fail
  refine (hFi.out _ hd3.out).mono ?_
  rintro e w4 ⟨⟨A4, c4, rfl, hO4⟩, hc4⟩
  have hI4 := hid (show IntsAt (fun _ => True) w4 A4 2 c4 [0, 3] from hO4.els.mono (fun _ _ _ => trivial))
  have hI34 := hid (hI3.out.chg hc4 (fun _ _ _ h => h))
  have hq4 := hid (hq3.out.trans hc4)
  have hd4 := hid (hd3.out.trans hc4)
  have x0 := (hSt.out ⟨_, hq4.out⟩).1
  have x1 := (hSt.out ⟨_, hq4.out⟩).2.1
  dsimp only at x0 x1
  clear hc4 hO4 hd3 hq3
  clear hFi hI3 hk3
  go_wp2_with fail
  refine (hO0.out _).mono ?_
  rintro e w5 ⟨rfl, hc5⟩
  have hI35 := hid (hI34.out.chg hc5 (fun _ _ _ h => h))
  have hI45 := hid (hI4.out.chg hc5 (fun _ _ _ h => h))
  have hq5 := hid (hq4.out.trans hc5)
  have hd5 := hid (hd4.out.trans hc5)
  clear hc5 hd4 hq4 hI34 hI4 x0 x1 hO0
  go_wp2_with fail
  refine (hCb.out _ _ (row_one w5 (ofC s12c))).mono ?_
  rintro e w6 ⟨⟨A6, c6, rfl, -⟩, hc6'⟩
  have hc6 := ((Chg.refl Nothing w5).alloc (.cells #[.int .u64 (wd (ofC s12c) 0), .int .u64 (wd (ofC s12c) 1), .int .u64 (wd (ofC s12c) 2), .int .u64 (wd (ofC s12c) 3)] 51)).trans hc6'
  have hI36 := hid (hI35.out.chg hc6 (fun _ _ _ h => h))
  have hI46 := hid (hI45.out.chg hc6 (fun _ _ _ h => h))
  have hq6 := hid (hq5.out.trans hc6)
  have hd6 := hid (hd5.out.trans hc6)
  have x0 := (hSt.out ⟨_, hq6.out⟩).1
  have x1 := (hSt.out ⟨_, hq6.out⟩).2.1
  dsimp only at x0 x1
  clear hc6 hc6' hd5 hq5 hI35 hI45 hCb
  go_wp2_with fail
  refine (hCe.out _ hd6.out).mono ?_
  rintro e w7 ⟨⟨A7, c7, rfl, hO7⟩, hc7⟩
  have hI37 := hid (hI36.out.chg hc7 (fun _ _ _ h => h))
  have hI47 := hid (hI46.out.chg hc7 (fun _ _ _ h => h))
  have hq7 := hid (hq6.out.trans hc7)
  have hd7 := hid (hd6.out.trans hc7)
  have x0 := (hSt.out ⟨_, hq7.out⟩).1
  have x1 := (hSt.out ⟨_, hq7.out⟩).2.1
  dsimp only at x0 x1
  clear hc7 hO7 hd6 hq6
  clear hCe hI36 hI46 x0 x1
  have hr7 := hid (hOrh.out.chg hq7.out (fun _ _ _ h => h))
  have hS := hid (fun (m : Calm w7) => (show (m.val.cell? ⟨w1.heap.size, 0, none⟩ = some (.slice A1 4 c1) ∧ m.val.cell? ⟨w1.heap.size, 1, none⟩ = some (.int .i64 1) ∧ (m.val.cell? ⟨gf, of, none⟩ = some (.int .u64 (wd (ofC s12d) 0)) ∧ m.val.cell? ⟨gf, of + 1, none⟩ = some (.int .u64 (wd (ofC s12d) 1)) ∧ m.val.cell? ⟨gf, of + 2, none⟩ = some (.int .u64 (wd (ofC s12d) 2)) ∧ m.val.cell? ⟨gf, of + 3, none⟩ = some (.int .u64 (wd (ofC s12d) 3))) ∧ m.val.cell? ⟨gr, or + 4, none⟩ = some (.int .u64 (wd (ofC s12f) 0)) ∧ m.val.cell? ⟨gr, or + 4 + 1, none⟩ = some (.int .u64 (wd (ofC s12f) 1)) ∧ m.val.cell? ⟨gr, or + 4 + 2, none⟩ = some (.int .u64 (wd (ofC s12f) 2)) ∧ m.val.cell? ⟨gr, or + 4 + 3, none⟩ = some (.int .u64 (wd (ofC s12f) 3))) from hSt.out ⟨m.val, hq7.out.trans m.chg⟩))
  have hW := hid (Chg.refl Nothing w7)
  have hE1 := eq_class (ofC s12d) (ofC s12d)
  have hE2 := eq_class (ofC s12f) (ofC s12f)
  rw [decide_eq_true rfl] at hE1 hE2
  unfold encC at hE1 hE2
  have hP1 := hid (fun (w' : World) (B : Nat) (hc : Chg Nothing w7 w') (h : IntsAt (fun _ => True) w' (some ⟨B, 0, none⟩) 4 4 [0, 4, 4, 0]) => same_intsM (hI37.out.chg hc (fun _ _ _ h => h)) h)
  have hP2 := hid (fun (w' : World) (B : Nat) (hc : Chg Nothing w7 w') (h : IntsAt (fun _ => True) w' (some ⟨B, 0, none⟩) 2 2 [0, 3]) => same_intsM (hI47.out.chg hc (fun _ _ _ h => h)) h)
  have hP3 := hid (fun (w' : World) (g B : Nat) (h : IntsAt (fun _ => True) w' (some ⟨g, 0, none⟩) 2 2 [2, 0]) (h2 : IntsAt (fun _ => True) w' (some ⟨B, 0, none⟩) 2 2 [2, 0]) => same_intsM h h2)
  have hRb := hid (fun (w' : World) (hc : Chg Nothing w7 w') => hRa.out w' (hd7.out.trans hc) _ _ _ (hr7.out.chg hc (fun _ _ _ h => h)))
  have hCz := hid (hCw.out.trans hq7.out)
  clear hRa hSt hOrh hr7 hI37 hI47 hR hd7 hq7 hCw
  go_wp2_with fail
  go_region_held3 (fun w' => w'.cell? ⟨w1.heap.size, 0, none⟩ = some (.slice A1 4 c1) ∧ w'.cell? ⟨w1.heap.size, 1, none⟩ = some (.int .i64 1) ∧ (w'.cell? ⟨gf, of, none⟩ = some (.int .u64 (wd (ofC s12d) 0)) ∧ w'.cell? ⟨gf, of + 1, none⟩ = some (.int .u64 (wd (ofC s12d) 1)) ∧ w'.cell? ⟨gf, of + 2, none⟩ = some (.int .u64 (wd (ofC s12d) 2)) ∧ w'.cell? ⟨gf, of + 3, none⟩ = some (.int .u64 (wd (ofC s12d) 3))) ∧ w'.cell? ⟨gr, or + 4, none⟩ = some (.int .u64 (wd (ofC s12f) 0)) ∧ w'.cell? ⟨gr, or + 4 + 1, none⟩ = some (.int .u64 (wd (ofC s12f) 1)) ∧ w'.cell? ⟨gr, or + 4 + 2, none⟩ = some (.int .u64 (wd (ofC s12f) 2)) ∧ w'.cell? ⟨gr, or + 4 + 3, none⟩ = some (.int .u64 (wd (ofC s12f) 3)))
    (first | exact hS.out ⟨_, hW.out⟩ | exact hS.out ⟨_, hW.out.drew⟩ | exact hS.out ⟨_, hW.out.alloc _⟩ | exact hS.out ⟨_, hW.out.drew.alloc _⟩)
    (first
    | (go_at_call 15; with_reducible refine (hP1.out _ _ ?c1 ?h2).mono ?_; (case h2 => first | exact lit0440 _ | exact ElsAt.chg (lit0440 _) (Chg.refl Nothing _).drew (fun _ _ _ h => h)); (case c1 => (repeat (first | with_reducible exact hW.out | with_reducible exact Chg.refl _ _ | with_reducible apply Chg.drew | with_reducible apply Chg.alloc))); rintro e wN ⟨rfl, hcN⟩; replace hW := hid (Chg.trans (a := w7) (by (repeat (first | with_reducible exact hW.out | with_reducible exact Chg.refl _ _ | with_reducible apply Chg.drew | with_reducible apply Chg.alloc))) hcN); clear hcN)
    | (go_at_call 15; with_reducible refine (hP2.out _ _ ?c1 ?h2).mono ?_; (case h2 => first | exact lit03 _ | exact ElsAt.chg (lit03 _) (Chg.refl Nothing _).drew (fun _ _ _ h => h)); (case c1 => (repeat (first | with_reducible exact hW.out | with_reducible exact Chg.refl _ _ | with_reducible apply Chg.drew | with_reducible apply Chg.alloc))); rintro e wN ⟨rfl, hcN⟩; replace hW := hid (Chg.trans (a := w7) (by (repeat (first | with_reducible exact hW.out | with_reducible exact Chg.refl _ _ | with_reducible apply Chg.drew | with_reducible apply Chg.alloc))) hcN); clear hcN)
    | (go_at_call 27; with_reducible refine (hO1.out _).mono ?_; rintro e wA ⟨rfl, hcA⟩; replace hW := hid (Chg.trans (a := w7) (by (repeat (first | with_reducible exact hW.out | with_reducible exact Chg.refl _ _ | with_reducible apply Chg.drew | with_reducible apply Chg.alloc))) hcA); replace hcA := hid hcA)
    | (go_at_call 27; with_reducible refine (hO2.out _).mono ?_; rintro e wB ⟨rfl, hcA⟩; replace hW := hid (Chg.trans (a := w7) (by (repeat (first | with_reducible exact hW.out | with_reducible exact Chg.refl _ _ | with_reducible apply Chg.drew | with_reducible apply Chg.alloc))) hcA); replace hcA := hid hcA)
    | (go_at_call 16; with_reducible refine (hRb.out _ ?c1).mono ?_; (case c1 => (repeat (first | with_reducible exact hW.out | with_reducible exact Chg.refl _ _ | with_reducible apply Chg.drew | with_reducible apply Chg.alloc))); rintro e wR ⟨gR, rfl, hER, hcR⟩; replace hW := hid (Chg.trans (a := w7) (by (repeat (first | with_reducible exact hW.out | with_reducible exact Chg.refl _ _ | with_reducible apply Chg.drew | with_reducible apply Chg.alloc))) hcR); replace hcR := hid hcR; replace hER := hid hER)
    | (go_at_call 15; with_reducible refine (hP3.out _ _ _ ?h1 ?h2).mono ?_; (case h1 => first | exact hER.out | exact hER.out.chg (Chg.alloc (Chg.refl Nothing _) _) (fun _ _ _ h => h)); (case h2 => first | exact lit20 _ | exact (lit20 _).chg hcR.out (fun _ _ _ h => h)); rintro e wN ⟨rfl, hcN⟩; replace hW := hid (Chg.trans (a := w7) (by (repeat (first | with_reducible exact hW.out | with_reducible exact Chg.refl _ _ | with_reducible apply Chg.drew | with_reducible apply Chg.alloc))) hcN); clear hcN))
  all_goals
    go_wp2
    go_ret
    exact ⟨rfl, hCz.out.trans hW.out⟩
end Go.Proofs.Ytlpgbnbklddfaaa
