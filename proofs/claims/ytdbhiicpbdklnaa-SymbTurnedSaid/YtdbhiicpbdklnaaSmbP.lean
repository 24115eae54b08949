/- Layer 11: the laws SymbMarks, SymbCounts, SymbFinds, SymbSizes. -/
import Derived.Test.YtdbhiicpbdklnaaBunS
namespace Go.Proofs.Ytdbhiicpbdklnaa
open Go.RowKit
set_option linter.unusedVariables false
theorem FBlk.row {w : World} {g n : Nat} {f : Nat → Int} (h : FBlk w g n f 25) (hn : n ≤ 1000000000) : U64At (fun _ => True) w (some ⟨g, 0, none⟩) n n ((List.range n).map f) := by
  have h2 := (h.els 0 n n (by omega) (Nat.le_refl _) (by omega)).mono (G := fun _ => True) (fun _ _ _ => trivial)
  simpa using h2
theorem URow.row {w : World} {base : Nat} {A : Option Addr} {n c : Nat} {f : Nat → Int} (h : URow w base A n c f) : U64At (fun _ => True) w A n c ((List.range n).map f) :=
  (ElsAt.of_own (enc := Value.int .u64) (d := 0) (xs := (List.range n).map f) (by rw [List.map_map]; exact h)).mono (fun _ _ _ => trivial)
abbrev LeafRow (w : World) (A : Option Addr) (l c : Nat) (xs : List Cls) : Prop := RowAt 4 (fun k => k < w.heap.size) w A l c (xs.flatMap clsL)
theorem LeafRow.calm {w w' : World} {A : Option Addr} {l c : Nat} {xs : List Cls} (h : LeafRow w A l c xs) (hc : Chg Nothing w w') : LeafRow w' A l c xs := (h.chg hc (fun _ _ _ h => h)).mono (fun k hk _ => hk)
set_option maxHeartbeats 16000000 in
set_option maxRecDepth 100000 in
theorem SymbMarks_walk (A : Option Addr) (l c : Nat) (xs : List Cls) (K : Int) (s : ByteArray) (y : Cls) (w : World) (H : LeafRow w A l c xs) (hl : xs.length = l) (hf : l * 32 ≤ 140737488351232) (hK : -9223372036854775808 ≤ K ∧ K ≤ 9223372036854775807) (hs : s.size ≤ 140737488351232) :
    Calls Try.prog 3 #[.agg #[.slice A l c, .int .i64 K], .string s, encC y] w fun e w' => e = .returned (.bool true) ∧ Chg Nothing w w' := by
  have hFw := hid (fun w => few11_any A l c K s w (by omega) (by omega))
  unfold encC
  have hw0 := hid (((Chg.refl Nothing w).alloc (.cells #[.slice A l c, .int .i64 K] 24)).alloc (.cells (cellsC y) 27))
  have hL := (Blk.new w #[.slice A l c, .int .i64 K] 24).alloc (.cells (cellsC y) 27)
  have hY := Blk.new (w.alloc (.cells #[.slice A l c, .int .i64 K] 24)) (cellsC y) 27
  rw [World.size_alloc] at hY
  have hHH := hid (fun (w' : World) (hc : Chg Nothing w w') => H.calm hc)
  have hlh := hid hl
  have hle := H.le
  have hmx := H.max
  obtain ⟨r0, r1, r2, r3, -, -, -, -, hlt1⟩ := CBox.at_ (show CBox _ _ y from hY)
  have x0 := hL.cell 0 (v := .slice A l c) rfl
  have x1 := hL.cell 1 (v := .int .i64 K) rfl
  have hlx := hL.lt
  unfold cellsC at hL hY hw0 x0 x1 r0 r1 r2 r3 hlt1 hlx
  clear H hl hL hY
  by_cases hfew : (decide (l ≤ 100) && decide (s.size ≤ 300)) = true
  · rw [hfew] at hFw
    simp only [Bool.and_eq_true, decide_eq_true_eq] at hfew
    obtain ⟨hl1, hs1⟩ := hfew
    have hM1 := hid (fun w' => (marks_any y s w' (by omega)).mono (R' := fun e w'' => ∃ g, e = .returned (.slice (some ⟨g, 0, none⟩) s.size s.size) ∧ U64At (fun _ => True) w'' (some ⟨g, 0, none⟩) s.size s.size ((List.range s.size).map (markF y s)) ∧ Chg Nothing w' w'') (fun e w'' ⟨g, _, he, hB, hc⟩ => ⟨g, he, hB.row (by omega), hc⟩))
    have hM2 := hid (fun w' => (show Calls Try.prog 13 #[.string s, litC y] w' _ from refMarks_any y s w' (by omega)).mono (R' := fun e w'' => ∃ A5 c5, e = .returned (.slice A5 s.size c5) ∧ U64At (fun _ => True) w'' A5 s.size c5 ((List.range s.size).map (markF y s)) ∧ Chg Nothing w' w'') (fun e w'' ⟨A5, c5, he, hB, hc⟩ => ⟨A5, c5, he, URow.row hB, hc⟩))
    have hP1 := hid (fun (w' : World) (hc : Chg Nothing w w') => (places_any _ A l c xs K y w' (hHH.out w' hc) hlh.out (by omega)).mono (R' := fun e w'' => ∃ g, e = .returned (.slice (some ⟨g, 0, none⟩) l l) ∧ U64At (fun _ => True) w'' (some ⟨g, 0, none⟩) l l ((List.range l).map (placeF xs y)) ∧ Chg Nothing w' w'') (fun e w'' ⟨g, _, he, hB, hc⟩ => ⟨g, he, hB.row (by omega), hc⟩))
    have hP2 := hid (fun (w' : World) (hc : Chg Nothing w w') => (refPlaces_any _ A l c xs K y w' (hHH.out w' hc) hlh.out (by omega)).mono (R' := fun e w'' => ∃ A5 c5, e = .returned (.slice A5 l c5) ∧ U64At (fun _ => True) w'' A5 l c5 ((List.range l).map (placeF xs y)) ∧ Chg Nothing w' w'') (fun e w'' ⟨A5, c5, he, hB, hc⟩ => ⟨A5, c5, he, URow.row hB, hc⟩))
    have hQ1 := hid (fun (w' : World) (g : Nat) (A5 : Option Addr) (c5 : Nat) (h : U64At (fun _ => True) w' (some ⟨g, 0, none⟩) s.size s.size ((List.range s.size).map (markF y s))) (h2 : U64At (fun _ => True) w' A5 s.size c5 ((List.range s.size).map (markF y s))) => same_u64 h h2)
    have hQ2 := hid (fun (w' : World) (g : Nat) (A5 : Option Addr) (c5 : Nat) (h : U64At (fun _ => True) w' (some ⟨g, 0, none⟩) l l ((List.range l).map (placeF xs y))) (h2 : U64At (fun _ => True) w' A5 l c5 ((List.range l).map (placeF xs y))) => same_u64 h h2)
    go_enter Try.func3, Try.ntmps3
    go_wp2_with fail
    refine (hFw.out _).mono ?_
    rintro e w5 ⟨rfl, hc5⟩
    have hC5 := hid (hw0.out.trans hc5)
    have hS := hid (fun (m : Calm w5) => (⟨Calm.cell (Nat.lt_of_lt_of_le hlx hc5.size) ((hc5.cells.1 _ _ hlx).trans x0) m, Calm.cell (Nat.lt_of_lt_of_le hlx hc5.size) ((hc5.cells.1 _ _ hlx).trans x1) m, Calm.cell (Nat.lt_of_lt_of_le hlt1 hc5.size) ((hc5.cells.1 _ _ hlt1).trans r0) m, Calm.cell (Nat.lt_of_lt_of_le hlt1 hc5.size) ((hc5.cells.1 _ _ hlt1).trans r1) m, Calm.cell (Nat.lt_of_lt_of_le hlt1 hc5.size) ((hc5.cells.1 _ _ hlt1).trans r2) m, Calm.cell (Nat.lt_of_lt_of_le hlt1 hc5.size) ((hc5.cells.1 _ _ hlt1).trans r3) m⟩ : m.val.cell? ⟨w.heap.size, 0, none⟩ = some (.slice A l c) ∧ m.val.cell? ⟨w.heap.size, 1, none⟩ = some (.int .i64 K) ∧ m.val.cell? ⟨w.heap.size + 1, 0, none⟩ = some (.int .u64 (wd y 0)) ∧ m.val.cell? ⟨w.heap.size + 1, 1, none⟩ = some (.int .u64 (wd y 1)) ∧ m.val.cell? ⟨w.heap.size + 1, 2, none⟩ = some (.int .u64 (wd y 2)) ∧ m.val.cell? ⟨w.heap.size + 1, 3, none⟩ = some (.int .u64 (wd y 3))))
    have hW := hid (Chg.refl Nothing w5)
    clear x0 x1 hlx r0 r1 r2 r3 hlt1 hc5
    go_wp2_with fail
    go_region_held3 (fun w' => w'.cell? ⟨w.heap.size, 0, none⟩ = some (.slice A l c) ∧ w'.cell? ⟨w.heap.size, 1, none⟩ = some (.int .i64 K) ∧ w'.cell? ⟨w.heap.size + 1, 0, none⟩ = some (.int .u64 (wd y 0)) ∧ w'.cell? ⟨w.heap.size + 1, 1, none⟩ = some (.int .u64 (wd y 1)) ∧ w'.cell? ⟨w.heap.size + 1, 2, none⟩ = some (.int .u64 (wd y 2)) ∧ w'.cell? ⟨w.heap.size + 1, 3, none⟩ = some (.int .u64 (wd y 3)))
      (first | exact hS.out ⟨_, hW.out⟩ | exact hS.out ⟨_, hW.out.drew⟩)
      (first
      | (go_at_call 10; with_reducible refine (alive11 _).mono ?_; rintro e wN ⟨rfl, hcN⟩; replace hW := hid (Chg.trans (a := w5) hW.out.drew hcN); clear hcN)
      | (go_at_call 12; with_reducible refine (hM1.out _).mono ?_; rintro e wM ⟨gM, rfl, hBM, hcM⟩; replace hW := hid (Chg.trans (a := w5) hW.out hcM); replace hcM := hid hcM; replace hBM := hid hBM)
      | (go_at_call 13; with_reducible refine (hM2.out _).mono ?_; rintro e wR ⟨AR, cR, rfl, hBR, hcR⟩; replace hW := hid (Chg.trans (a := w5) hW.out hcR); replace hcR := hid hcR; replace hBR := hid hBR)
      | (go_at_call 14; with_reducible refine (hP1.out _ (Chg.trans hC5.out hW.out)).mono ?_; rintro e wP ⟨gP, rfl, hBP, hcP⟩; replace hW := hid (Chg.trans (a := w5) hW.out hcP); replace hcP := hid hcP; replace hBP := hid hBP)
      | (go_at_call 15; with_reducible refine (hP2.out _ (Chg.trans hC5.out hW.out)).mono ?_; rintro e wQ ⟨AQ, cQ, rfl, hBQ, hcQ⟩; replace hW := hid (Chg.trans (a := w5) hW.out hcQ); replace hcQ := hid hcQ; replace hBQ := hid hBQ)
      | (go_at_call 11; with_reducible refine (hQ1.out _ _ _ _ ?h1 ?h2).mono ?_; (case h1 => first | exact hBM.out | exact hBM.out.chg hcR.out (fun _ _ _ h => h)); (case h2 => first | exact hBR.out | exact hBR.out.chg hcM.out (fun _ _ _ h => h)); rintro e wN ⟨rfl, hcN⟩; replace hW := hid (Chg.trans (a := w5) hW.out hcN); clear hcN)
      | (go_at_call 11; with_reducible refine (hQ2.out _ _ _ _ ?h1 ?h2).mono ?_; (case h1 => first | exact hBP.out | exact hBP.out.chg hcQ.out (fun _ _ _ h => h)); (case h2 => first | exact hBQ.out | exact hBQ.out.chg hcP.out (fun _ _ _ h => h)); rintro e wN ⟨rfl, hcN⟩; replace hW := hid (Chg.trans (a := w5) hW.out hcN); clear hcN))
    all_goals
      go_wp2
      go_ret
      exact ⟨rfl, hC5.out.trans hW.out⟩
  · have hfb : (decide (l ≤ 100) && decide (s.size ≤ 300)) = false := by simpa using hfew
    rw [hfb] at hFw
    clear hfew
    go_enter Try.func3, Try.ntmps3
    go_wp2_with fail
    refine (hFw.out _).mono ?_
    rintro e w5 ⟨rfl, hc5⟩
    have hC5 := hid (hw0.out.trans hc5)
    clear hc5 x0 x1 hlx r0 r1 r2 r3 hlt1
    go_wp2_with fail
    refine (alive11 _).mono ?_
    rintro e w6 ⟨rfl, hc6⟩
    have hC6 := hid (hC5.out.trans hc6)
    go_wp2
    go_ret
    exact ⟨rfl, hC6.out⟩
set_option maxHeartbeats 16000000 in
set_option maxRecDepth 100000 in
theorem SymbCounts_walk (A : Option Addr) (l c : Nat) (xs : List Cls) (K : Int) (s : ByteArray) (size : Int) (w : World) (H : LeafRow w A l c xs) (hl : xs.length = l) (hf : l * 32 ≤ 140737488351232) (hK : -9223372036854775808 ≤ K ∧ K ≤ 9223372036854775807) (hs : s.size ≤ 140737488351232) (hz1 : -9223372036854775808 ≤ size) (hz2 : size ≤ 9223372036854775807) :
    Calls Try.prog 4 #[.agg #[.slice A l c, .int .i64 K], .string s, .int .i64 size] w fun e w' => e = .returned (.bool true) ∧ Chg Nothing w w' := by
  have hFw := hid (fun w => few11_any A l c K s w (by omega) (by omega))
  have hw0 := hid ((Chg.refl Nothing w).alloc (.cells #[.slice A l c, .int .i64 K] 24))
  have hL := Blk.new w #[.slice A l c, .int .i64 K] 24
  have hHH := hid (fun (w' : World) (hc : Chg Nothing w w') => H.calm hc)
  have hlh := hid hl
  have hle := H.le
  have hmx := H.max
  have x0 := hL.cell 0 (v := .slice A l c) rfl
  have x1 := hL.cell 1 (v := .int .i64 K) rfl
  have hlx := hL.lt
  clear H hl hL
  by_cases hfew : (decide (l ≤ 100) && decide (s.size ≤ 300)) = true
  · rw [hfew] at hFw
    simp only [Bool.and_eq_true, decide_eq_true_eq] at hfew
    obtain ⟨hl1, hs1⟩ := hfew
    have hP1 := hid (fun (w' : World) (hc : Chg Nothing w w') => symbCounts_any _ A l c xs K s size w' (hHH.out w' hc) (fun _ h => h) hlh.out (by omega))
    have hP2 := hid (fun (w' : World) (hc : Chg Nothing w w') => refCounts11_any _ A l c xs K s size w' (hHH.out w' hc) hlh.out (by omega))
    generalize symY xs K s size = ys at *
    generalize symN xs K s size = num at *
    generalize amiss xs K s.size size = E at *
    go_enter Try.func4, Try.ntmps4
    go_wp2_with fail
    refine (hFw.out _).mono ?_
    rintro e w5 ⟨rfl, hc5⟩
    have y0 := (hc5.cells.1 _ _ hlx).trans x0
    have y1 := (hc5.cells.1 _ _ hlx).trans x1
    have hly := Nat.lt_of_lt_of_le hlx hc5.size
    have hC5 := hid (hw0.out.trans hc5)
    clear hc5 x0 x1 hlx
    go_wp2_with fail
    refine (hP1.out _ hC5.out).mono ?_
    rintro e w6 ⟨⟨A6, c6, rfl, hO6⟩, hc6⟩
    replace hO6 := hid (hO6.els.mono (G := fun _ => True) (fun _ _ _ => trivial))
    have x0 := (hc6.cells.1 _ _ hly).trans y0
    have x1 := (hc6.cells.1 _ _ hly).trans y1
    have hlx := Nat.lt_of_lt_of_le hly hc6.size
    have hC6 := hid (hC5.out.trans hc6)
    clear hc6 y0 y1 hly
    go_wp2_with fail
    refine (hP2.out _ hC6.out).mono ?_
    rintro e w7 ⟨⟨A7, c7, rfl, hO7⟩, hc7⟩
    replace hO7 := hid (hO7.els.mono (G := fun _ => True) (fun _ _ _ => trivial))
    have hO6b := hid (hO6.out.chg hc7 (fun _ _ _ h => h))
    have y0 := (hc7.cells.1 _ _ hlx).trans x0
    have y1 := (hc7.cells.1 _ _ hlx).trans x1
    have hly := Nat.lt_of_lt_of_le hlx hc7.size
    have hC7 := hid (hC6.out.trans hc7)
    clear hc7 x0 x1 hlx hO6
    go_wp2_with fail
    refine (alive11 _).mono ?_
    rintro e w8 ⟨rfl, hc8⟩
    have hO6c := hid (hO6b.out.chg hc8 (fun _ _ _ h => h))
    have hO7c := hid (hO7.out.chg hc8 (fun _ _ _ h => h))
    have x0 := (hc8.cells.1 _ _ hly).trans y0
    have x1 := (hc8.cells.1 _ _ hly).trans y1
    have hlx := Nat.lt_of_lt_of_le hly hc8.size
    have hC8 := hid (hC7.out.trans hc8)
    clear hc8 y0 y1 hly hO6b hO7
    go_wp2_with fail
    refine (same_ints hO6c.out hO7c.out).mono ?_
    rintro e w9 ⟨rfl, hc9⟩
    have hC9 := hid (hC8.out.trans hc9)
    clear hc9 x0 x1 hlx
    go_wp2
    go_ret
    exact ⟨rfl, hC9.out⟩
  · have hfb : (decide (l ≤ 100) && decide (s.size ≤ 300)) = false := by simpa using hfew
    rw [hfb] at hFw
    clear hfew
    go_enter Try.func4, Try.ntmps4
    go_wp2_with fail
    refine (hFw.out _).mono ?_
    rintro e w5 ⟨rfl, hc5⟩
    have hC5 := hid (hw0.out.trans hc5)
    clear hc5 x0 x1 hlx
    go_wp2_with fail
    refine (alive11 _).mono ?_
    rintro e w6 ⟨rfl, hc6⟩
    have hC6 := hid (hC5.out.trans hc6)
    go_wp2
    go_ret
    exact ⟨rfl, hC6.out⟩
set_option maxHeartbeats 16000000 in
set_option maxRecDepth 100000 in
theorem SymbFinds_walk (A : Option Addr) (l c : Nat) (xs : List Cls) (K : Int) (s : ByteArray) (size : Int) (w : World) (H : LeafRow w A l c xs) (hl : xs.length = l) (hf : l * 32 ≤ 140737488351232) (hK : -9223372036854775808 ≤ K ∧ K ≤ 9223372036854775807) (hs : s.size ≤ 140737488351232) (hz1 : -9223372036854775808 ≤ size) (hz2 : size ≤ 9223372036854775807) :
    Calls Try.prog 5 #[.agg #[.slice A l c, .int .i64 K], .string s, .int .i64 size] w fun e w' => e = .returned (.bool true) ∧ Chg Nothing w w' := by
  have hFw := hid (fun w => few11_any A l c K s w (by omega) (by omega))
  have hw0 := hid ((Chg.refl Nothing w).alloc (.cells #[.slice A l c, .int .i64 K] 24))
  have hL := Blk.new w #[.slice A l c, .int .i64 K] 24
  have hHH := hid (fun (w' : World) (hc : Chg Nothing w w') => H.calm hc)
  have hlh := hid hl
  have hle := H.le
  have hmx := H.max
  have x0 := hL.cell 0 (v := .slice A l c) rfl
  have x1 := hL.cell 1 (v := .int .i64 K) rfl
  have hlx := hL.lt
  clear H hl hL
  by_cases hfew : (decide (l ≤ 100) && decide (s.size ≤ 300)) = true
  · rw [hfew] at hFw
    simp only [Bool.and_eq_true, decide_eq_true_eq] at hfew
    obtain ⟨hl1, hs1⟩ := hfew
    have hP1 := hid (fun (w' : World) (hc : Chg Nothing w w') => symbFind_any _ A l c xs K s size w' (hHH.out w' hc) (fun _ h => h) hlh.out (by omega))
    have hP2 := hid (fun (w' : World) (hc : Chg Nothing w w') => refFind11_any _ A l c xs K s size w' (hHH.out w' hc) hlh.out (by omega))
    have hE0 := hid (fun (h : amiss xs K s.size size = 0) => (show symF xs K s size = hitsTo (countsR xs K s) K (countsR xs K s).length from by
      obtain ⟨hr, -⟩ := amiss_zero h
      unfold symF symY countsR; rw [if_pos h, if_pos hr]))
    have hP3 := hid (fun (w' : World) (hc : Chg Nothing w w') => refFind8_any _ A l c xs K s w' (hHH.out w' hc) hlh.out (by omega))
    generalize hitsTo (countsR xs K s) K (countsR xs K s).length = zs at *
    generalize symF xs K s size = ys at *
    generalize symN xs K s size = num at *
    generalize amiss xs K s.size size = E at *
    go_enter Try.func5, Try.ntmps5
    go_wp2_with fail
    refine (hFw.out _).mono ?_
    rintro e w5 ⟨rfl, hc5⟩
    have y0 := (hc5.cells.1 _ _ hlx).trans x0
    have y1 := (hc5.cells.1 _ _ hlx).trans x1
    have hly := Nat.lt_of_lt_of_le hlx hc5.size
    have hC5 := hid (hw0.out.trans hc5)
    clear hc5 x0 x1 hlx
    go_wp2_with fail
    refine (hP1.out _ hC5.out).mono ?_
    rintro e w6 ⟨⟨A6, c6, rfl, hO6⟩, hc6⟩
    replace hO6 := hid (hO6.els.mono (G := fun _ => True) (fun _ _ _ => trivial))
    have x0 := (hc6.cells.1 _ _ hly).trans y0
    have x1 := (hc6.cells.1 _ _ hly).trans y1
    have hlx := Nat.lt_of_lt_of_le hly hc6.size
    have hC6 := hid (hC5.out.trans hc6)
    clear hc6 y0 y1 hly
    go_wp2_with fail
    refine (hP2.out _ hC6.out).mono ?_
    rintro e w7 ⟨⟨A7, c7, rfl, hO7⟩, hc7⟩
    replace hO7 := hid (hO7.els.mono (G := fun _ => True) (fun _ _ _ => trivial))
    have hO6b := hid (hO6.out.chg hc7 (fun _ _ _ h => h))
    have y0 := (hc7.cells.1 _ _ hlx).trans x0
    have y1 := (hc7.cells.1 _ _ hlx).trans x1
    have hly := Nat.lt_of_lt_of_le hlx hc7.size
    have hC7 := hid (hC6.out.trans hc7)
    clear hc7 x0 x1 hlx hO6
    go_wp2_with fail
    refine (alive11 _).mono ?_
    rintro e w8 ⟨rfl, hc8⟩
    have hO6c := hid (hO6b.out.chg hc8 (fun _ _ _ h => h))
    have hO7c := hid (hO7.out.chg hc8 (fun _ _ _ h => h))
    have x0 := (hc8.cells.1 _ _ hly).trans y0
    have x1 := (hc8.cells.1 _ _ hly).trans y1
    have hlx := Nat.lt_of_lt_of_le hly hc8.size
    have hC8 := hid (hC7.out.trans hc8)
    clear hc8 y0 y1 hly hO6b hO7
    go_wp2_with fail
    refine (same_ints hO6c.out hO7c.out).mono ?_
    rintro e w9 ⟨rfl, hc9⟩
    have hC9 := hid (hC8.out.trans hc9)
    by_cases hE : E = 0
    · have hzs := hE0.out hE
      subst hE hzs
      have y0 := (hc9.cells.1 _ _ hlx).trans x0
      have y1 := (hc9.cells.1 _ _ hlx).trans x1
      have hO6d := hid (hO6c.out.chg hc9 (fun _ _ _ h => h))
      clear hc9 x0 x1 hlx
      go_wp2_with fail
      refine (hP3.out _ hC9.out).mono ?_
      rintro e wA ⟨⟨AA, cA, rfl, hOA⟩, hcA⟩
      replace hOA := hid (hOA.els.mono (G := fun _ => True) (fun _ _ _ => trivial))
      have hO6e := hid (hO6d.out.chg hcA (fun _ _ _ h => h))
      have hCA := hid (hC9.out.trans hcA)
      clear hcA y0 y1
      go_wp2_with fail
      refine (same_ints hO6e.out hOA.out).mono ?_
      rintro e wB ⟨rfl, hcB⟩
      have hCB := hid (hCA.out.trans hcB)
      go_wp2
      go_ret
      exact ⟨rfl, hCB.out⟩
    · have hEb : (E == 0) = false := beq_eq_false_iff_ne.2 hE
      clear hc9 x0 x1 hlx
      go_wp2
      go_ret
      exact ⟨rfl, hC9.out⟩
  · have hfb : (decide (l ≤ 100) && decide (s.size ≤ 300)) = false := by simpa using hfew
    rw [hfb] at hFw
    clear hfew
    go_enter Try.func5, Try.ntmps5
    go_wp2_with fail
    refine (hFw.out _).mono ?_
    rintro e w5 ⟨rfl, hc5⟩
    have hC5 := hid (hw0.out.trans hc5)
    clear hc5 x0 x1 hlx
    go_wp2_with fail
    refine (alive11 _).mono ?_
    rintro e w6 ⟨rfl, hc6⟩
    have hC6 := hid (hC5.out.trans hc6)
    go_wp2
    go_ret
    exact ⟨rfl, hC6.out⟩
end Go.Proofs.Ytdbhiicpbdklnaa
