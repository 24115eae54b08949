/- Joined texts: QryA QryB QryC QryD QryE QryF QryG. -/
import Derived.Test.YtoelilejohfglaaGreatBnQry
import Derived.Test.YtoelilejohfglaaGreatBunF
import Derived.Test.YtoelilejohfglaaGreatBunA
import Derived.Test.YtoelilejohfglaaGreatBunE
import Derived.Test.YtoelilejohfglaaGreatRefI
import Derived.Test.YtoelilejohfglaaGreatBunB
set_option maxHeartbeats 16000000
set_option maxRecDepth 100000
namespace Go.Proofs.YtoelilejohfglaaGreat
open Go.RowKit
set_option linter.unusedVariables false
set_option linter.unusedSimpArgs false
attribute [local go_sem ↓] Go.wp_at_zero Go.wp_at_succ
structure NP where
 x : Nd
 A : Option Addr
 l : Nat
 c : Nat
def ndL (p : NP) : List Value := [.int .i64 p.x.kind, .int .i64 p.x.n, .slice p.A p.l p.c, .int .i64 p.x.K]
theorem ndL_len (p : NP) : (ndL p).length = 4 := rfl
def np0 : NP := ⟨⟨0, 0, [], 0⟩, none, 0, 0⟩
structure NRead (F : Nat → Prop) (w : World) (p : NP) : Prop where
 row : RowAt 4 F w p.A p.l p.c (p.x.p.flatMap clsL)
 len : p.x.p.length = p.l
structure NRow (F : Nat → Prop) (w : World) (A : Option Addr) (n c : Nat) (ps : List NP) : Prop where
 len : ps.length = n
 row : RowAt 4 F w A n c (ps.flatMap ndL)
 els : ∀ p ∈ ps, NRead F w p
theorem NRead.chg {F S : Nat → Prop} {w w' : World} {p : NP} (h : NRead F w p) (hc : Chg S w w') (hd : ∀ k, k < w.heap.size → F k → ¬ S k) : NRead F w' p := ⟨h.row.chg hc hd, h.len⟩
theorem NRow.chg {F S : Nat → Prop} {w w' : World} {A : Option Addr} {n c : Nat} {ps : List NP} (h : NRow F w A n c ps) (hc : Chg S w w') (hd : ∀ k, k < w.heap.size → F k → ¬ S k) : NRow F w' A n c ps :=
 ⟨h.len, h.row.chg hc hd, fun p hp => (h.els p hp).chg hc hd⟩
theorem NRow.calm {F : Nat → Prop} {w w' : World} {A : Option Addr} {n c : Nat} {ps : List NP} (h : NRow F w A n c ps) (hc : Chg Nothing w w') : NRow F w' A n c ps := h.chg hc (fun _ _ _ h => h)
theorem NRow.nil (F : Nat → Prop) (w : World) : NRow F w none 0 0 [] := ⟨rfl, RowAt.none _ _ _, fun p h => by simp at h⟩
theorem NRow.cut {F : Nat → Prop} {w : World} {A : Option Addr} {n c : Nat} {ps qs rs : List NP} (h : NRow F w A n c (ps ++ qs ++ rs)) : NRow F w (pieceA A ps.length c 4) qs.length (c - ps.length) qs := by
 have hl := h.len
 simp only [List.length_append] at hl
 refine ⟨rfl, ?_, fun p hp => h.els p (by simp [hp])⟩
 refine rowAt_cut (n := n) (m := qs.length) (vs := ps.flatMap ndL) (ws := rs.flatMap ndL) ?_ (flat_len ndL 4 ndL_len ps) (flat_len ndL 4 ndL_len qs) (by omega)
 have := h.row
 rwa [List.flatMap_append, List.flatMap_append] at this
theorem NRow.four {F : Nat → Prop} {w : World} {A : Option Addr} {n c : Nat} {ps : List NP} (h : NRow F w A n c ps) {k : Nat} (hk : k < n) :
  ∃ g o p, A = some ⟨g, o, none⟩ ∧ F g ∧ g < w.heap.size ∧ p = ps.getD k np0 ∧ p ∈ ps ∧ NRead F w p ∧ w.cell? ⟨g, o + k * 4, none⟩ = some (.int .i64 p.x.kind) ∧ w.cell? ⟨g, o + k * 4 + 1, none⟩ = some (.int .i64 p.x.n) ∧ w.cell? ⟨g, o + k * 4 + 2, none⟩ = some (.slice p.A p.l p.c) ∧ w.cell? ⟨g, o + k * 4 + 3, none⟩ = some (.int .i64 p.x.K) := by
 obtain ⟨g, o, e, hF, hlt, c0, c1, c2, c3⟩ := rowAt_four h.row (d := np0) ndL_len h.len hk
 have hm : ps.getD k np0 ∈ ps := by
  have : k < ps.length := by rw [h.len]; exact hk
  simp [this]
 exact ⟨g, o, ps.getD k np0, e, hF, hlt, rfl, hm, h.els _ hm, c0, c1, c2, c3⟩
theorem elemNd : Tryz.prog.underlying 22 = some (.slice (Tryz.prog.elem 22)) := by kernel_rfl
theorem sizeNd : ∀ w, (sizeOf (Tryz.prog.elem 22)).run Tryz.prog w = .ok 4 w := fun w => by kernel_rfl
theorem arity_any (k n K : Int) (A : Option Addr) (l c : Nat) (w : World) :
  Calls Tryz.prog 134 #[.agg #[.int .i64 k, .int .i64 n, .slice A l c, .int .i64 K]] w fun e w' => e = .returned (.int .i64 (arS k)) ∧ Chg Nothing w w' := by
 have hX := Blk.new w #[.int .i64 k, .int .i64 n, .slice A l c, .int .i64 K] 55
 have x0 := hX.cell 0 rfl
 clear hX
 have hcs : k = 1 ∨ (k ≠ 1 ∧ k = 4) ∨ (k ≠ 1 ∧ k ≠ 4 ∧ k = 5) ∨ (k ≠ 1 ∧ k ≠ 4 ∧ k ≠ 5 ∧ k = 2) ∨ (k ≠ 1 ∧ k ≠ 4 ∧ k ≠ 5 ∧ k ≠ 2 ∧ k = 3) ∨ (k ≠ 1 ∧ k ≠ 4 ∧ k ≠ 5 ∧ k ≠ 2 ∧ k ≠ 3) := by omega
 rcases hcs with rfl | ⟨h1, rfl⟩ | ⟨h1, h4, rfl⟩ | ⟨h1, h4, h5, rfl⟩ | ⟨h1, h4, h5, h2, rfl⟩ | ⟨h1, h4, h5, h2, h3⟩
 ·go_enter Tryz.func134, Tryz.ntmps134
  go_wp2
  go_ret
  exact ⟨rfl, (Chg.refl _ _).alloc _⟩
 ·go_enter Tryz.func134, Tryz.ntmps134
  go_wp2
  go_ret
  exact ⟨rfl, (Chg.refl _ _).alloc _⟩
 ·go_enter Tryz.func134, Tryz.ntmps134
  go_wp2
  go_ret
  exact ⟨rfl, (Chg.refl _ _).alloc _⟩
 ·go_enter Tryz.func134, Tryz.ntmps134
  go_wp2
  go_ret
  exact ⟨rfl, (Chg.refl _ _).alloc _⟩
 ·go_enter Tryz.func134, Tryz.ntmps134
  go_wp2
  go_ret
  exact ⟨rfl, (Chg.refl _ _).alloc _⟩
 ·have e1 : (k == 1) = false := beq_eq_false_iff_ne.2 h1
  have e4 : (k == 4) = false := beq_eq_false_iff_ne.2 h4
  have e5 : (k == 5) = false := beq_eq_false_iff_ne.2 h5
  have e2 : (k == 2) = false := beq_eq_false_iff_ne.2 h2
  have e3 : (k == 3) = false := beq_eq_false_iff_ne.2 h3
  have hE := hid (show arS k = -1 from by unfold arS; rw [if_neg h1, if_neg (by omega), if_neg (by omega)])
  clear h1 h2 h3 h4 h5
  rw [hE.out]
  go_enter Tryz.func134, Tryz.ntmps134
  go_wp2
  go_ret
  exact ⟨rfl, (Chg.refl _ _).alloc _⟩
def SzInv (w : World) (n : Nat) (L : List Nd) (ov iv : Value) (wr : World) : Prop := ∃ (k : Nat) (op : Int), k ≤ n ∧ iv = .int .i64 k ∧ ov = .int .i64 op ∧ 1 ≤ op ∧ op ≤ k + 1 ∧ Hid (sizeGo L 1 0 = sizeGo (L.drop k) op k) ∧ Chg Nothing w wr
theorem arS_le (k : Int) : -1 ≤ arS k ∧ arS k ≤ 2 := by rcases arS_cases k with h | h | h | h <;> omega
theorem drop_nd {ps : List NP} {k : Nat} (h : k < ps.length) : (ps.map NP.x).drop k = (ps.getD k np0).x :: (ps.map NP.x).drop (k + 1) := by
 rw [List.drop_eq_getElem_cons (by simpa using h)]
 simp [h]
theorem size_any (F : Nat → Prop) (A : Option Addr) (n c : Nat) (ps : List NP) (w : World) (H : NRow F w A n c ps) (hn : n ≤ 1000000) :
  Calls Tryz.prog 92 #[.slice A n c] w fun e w' => e = .returned (.int .i64 (sizeN (ps.map NP.x) : Nat)) ∧ Chg Nothing w w' := by
 have HH := hid H
 have hle := H.row.le
 have hmx := H.row.max
 have hlen := hid H.len
 clear H
 go_enter Tryz.func92, Tryz.ntmps92
 go_wp2
 go_step3
 go_wp2
 go_step3
 go_wp2
 go_loopw [3, 9] (fun ov iv wr => SzInv w n (ps.map NP.x) ov iv wr) (fun _ iv _ => n - (intOf iv).toNat)
 case atStart => exact ⟨0, 1, Nat.zero_le _, rfl, rfl, by omega, by omega, hid rfl, Chg.refl _ _⟩
 case round =>
  obtain ⟨k, op, hk, rfl, rfl, ho1, ho2, hgo, hchg⟩ := hrel
  rcases Nat.lt_or_ge k n with hkn | hkn
  ·obtain ⟨g, o, p, rfl, -, hgl, hp, -, -, c0, c1, c2, c3⟩ := (HH.out.calm hchg).four hkn
   have hst := hgo.out
   rw [drop_nd (by rw [hlen.out]; exact hkn), ← hp] at hst
   have hst' := hid hst
   clear hst
   replace hp := hid hp
   obtain ⟨⟨kd, nn, xs, K⟩, A1, l1, c1'⟩ := p
   simp only at c0 c1 c2 c3
   have ha := arS_le kd
   have hk0 : (0 : Int) ≤ (k : Int) := by omega
   have hkn' : (k : Int) < (n : Int) := by omega
   have hcl := hid (fun w => arity_any kd nn K A1 l1 c1' w)
   simp only [sizeGo] at hst'
   obtain ⟨a, hae⟩ : ∃ a, a = arS kd := ⟨_, rfl⟩
   rw [← hae] at ha hcl hst'
   replace hae := hid hae
   by_cases hneg : a < 0
   ·have hz := hid (show sizeN (ps.map NP.x) = 0 from by unfold sizeN; rw [hst'.out, if_pos hneg])
    go_wp2_with fail
    refine (hcl.out _).mono ?_
    rintro e w1 ⟨rfl, hc1⟩
    have hC := hid ((hchg.alloc (.cells #[.int .i64 kd, .int .i64 nn, .slice A1 l1 c1', .int .i64 K] 55)).trans hc1)
    clear hc1 hchg c0 c1 c2 c3
    go_wp2
    try rw [Exit.noGoto_ret]
    go_ret
    exact ⟨by rw [hz.out]; rfl, hC.out⟩
   ·by_cases h0 : op + (a - 1) = 0
    ·have hz := hid (show sizeN (ps.map NP.x) = k + 1 from by unfold sizeN; rw [hst'.out, if_neg hneg, if_pos h0])
     have e0 : ((op + (a - 1)) == 0) = true := beq_iff_eq.2 h0
     replace h0 := hid h0
     go_wp2_with fail
     refine (hcl.out _).mono ?_
     rintro e w1 ⟨rfl, hc1⟩
     have hC := hid ((hchg.alloc (.cells #[.int .i64 kd, .int .i64 nn, .slice A1 l1 c1', .int .i64 K] 55)).trans hc1)
     clear hc1 hchg c0 c1 c2 c3
     go_wp2
     try rw [Exit.noGoto_ret]
     go_ret
     exact ⟨by rw [hz.out]; rfl, hC.out⟩
    ·have hz := hid (show sizeGo (ps.map NP.x) 1 0 = sizeGo ((ps.map NP.x).drop (k + 1)) (op + (a - 1)) (k + 1) from by rw [hst'.out, if_neg hneg, if_neg h0])
     have e0 : ((op + (a - 1)) == 0) = false := beq_eq_false_iff_ne.2 h0
     have h1 : 1 ≤ op + (a - 1) := by omega
     replace h0 := hid h0
     go_wp2_with fail
     refine (hcl.out _).mono ?_
     rintro e w1 ⟨rfl, hc1⟩
     have hC := hid ((hchg.alloc (.cells #[.int .i64 kd, .int .i64 nn, .slice A1 l1 c1', .int .i64 K] 55)).trans hc1)
     clear hc1 hchg c0 c1 c2 c3
     go_wp2
     go_roundw
     case rel => exact ⟨k + 1, op + (a - 1), hkn, by go_num, rfl, h1, by omega, hz, hC.out⟩
     case measure => simp [intOf]; omega
  ·have hd : decide ((k : Int) < (n : Int)) = false := decide_eq_false (by omega)
   have hz := hid (show sizeN (ps.map NP.x) = 0 from by unfold sizeN; rw [hgo.out, List.drop_eq_nil_of_le (by rw [List.length_map, hlen.out]; exact hkn)]; rfl)
   go_wp2
   try rw [Exit.noGoto_ret]
   go_ret
   exact ⟨by rw [hz.out]; rfl, hchg⟩
theorem zero_any (K : Int) (A : Option Addr) (l c : Nat) (w : World) :
  Calls Tryz.prog 91 #[.agg #[.slice A l c, .int .i64 K]] w fun e w' => e = .returned (.bool (decide (l = 0) && decide (K = 0))) ∧ Chg Nothing w w' := by
 have hX := Blk.new w #[.slice A l c, .int .i64 K] 34
 have x0 := hX.cell 0 rfl
 have x1 := hX.cell 1 rfl
 clear hX
 by_cases hl : l = 0
 ·subst hl
  have e0 : decide ((0 : Nat) = 0) = true := rfl
  by_cases hK : K = 0
  ·subst hK
   go_enter Tryz.func91, Tryz.ntmps91
   go_wp2
   go_ret
   exact ⟨rfl, (Chg.refl _ _).alloc _⟩
  ·have e1 : (K == 0) = false := beq_eq_false_iff_ne.2 hK
   have e2 := hid (show decide (K = 0) = false from decide_eq_false hK)
   rw [e2.out]
   replace hK := hid hK
   go_enter Tryz.func91, Tryz.ntmps91
   go_wp2
   go_ret
   exact ⟨rfl, (Chg.refl _ _).alloc _⟩
 ·have e1 : ((l : Int) == 0) = false := beq_eq_false_iff_ne.2 (by omega)
  have e2 := hid (show decide (l = 0) = false from decide_eq_false hl)
  rw [e2.out, Bool.false_and]
  replace hl := hid hl
  go_enter Tryz.func91, Tryz.ntmps91
  go_wp2
  go_ret
  exact ⟨rfl, (Chg.refl _ _).alloc _⟩
theorem node_any (F : Nat → Prop) (kd n K : Int) (A : Option Addr) (l c : Nat) (xs : List Cls) (w : World) (H : ClsRow F w A l c xs) (hl : xs.length = l) :
  Calls Tryz.prog 61 #[.agg #[.int .i64 kd, .int .i64 n, .slice A l c, .int .i64 K]] w fun e w' => e = .returned (.bool (nodeD ⟨kd, n, xs, K⟩)) ∧ Chg Nothing w w' := by
 have hX := Blk.new w #[.int .i64 kd, .int .i64 n, .slice A l c, .int .i64 K] 55
 have x0 := hX.cell 0 rfl
 have x1 := hX.cell 1 rfl
 have x2 := hX.cell 2 rfl
 have x3 := hX.cell 3 rfl
 clear hX
 have hlh := hid hl
 have H1 := hid (fun w' (hc : Chg Nothing w w') => H.chg hc (fun _ _ _ h => h))
 clear H hl
 have hcs : (kd ≠ 5 ∧ n ≠ 0) ∨ (¬ (kd ≠ 5 ∧ n ≠ 0) ∧ (n < 0 ∨ (¬ n < 0 ∧ 1000000 < n) ∨ (¬ n < 0 ∧ ¬ 1000000 < n))) := by omega
 rcases hcs with ⟨h5, hn⟩ | ⟨hno, hcs⟩
 ·have e5 : (kd == 5) = false := beq_eq_false_iff_ne.2 h5
  have en : (n != 0) = true := by rw [bne_iff_ne]; exact hn
  have hE := hid (show nodeD ⟨kd, n, xs, K⟩ = false from by unfold nodeD; exact if_pos ⟨h5, hn⟩)
  rw [hE.out]
  clear h5 hn
  by_cases k1 : kd = 1
  all_goals
   go_enter Tryz.func61, Tryz.ntmps61
   go_wp2_with fail
   go_quiet (fail)
   go_wp2
   go_ret
   exact ⟨rfl, ((Chg.refl _ _).alloc _).drewN _⟩
 ·have hpre : (kd = 5) ∨ (kd ≠ 5 ∧ n = 0) := by omega
  rcases hcs with h | ⟨h, h'⟩ | ⟨h, h'⟩
  ·have hE := hid (show nodeD ⟨kd, n, xs, K⟩ = false from by unfold nodeD; rw [if_neg hno, if_pos h])
   rw [hE.out]
   rcases hpre with k5 | ⟨k5, k0⟩
   ·subst k5
    clear hno
    go_enter Tryz.func61, Tryz.ntmps61
    go_wp2_with fail
    go_quiet (fail)
    go_wp2
    go_ret
    exact ⟨rfl, ((Chg.refl _ _).alloc _).drewN _⟩
   ·omega
  ·have hE := hid (show nodeD ⟨kd, n, xs, K⟩ = false from by unfold nodeD; rw [if_neg hno, if_neg h, if_pos h'])
   rw [hE.out]
   rcases hpre with k5 | ⟨k5, k0⟩
   ·subst k5
    clear hno
    go_enter Tryz.func61, Tryz.ntmps61
    go_wp2_with fail
    go_quiet (fail)
    go_wp2
    go_ret
    exact ⟨rfl, ((Chg.refl _ _).alloc _).drewN _⟩
   ·omega
  ·by_cases k1 : kd = 1
   ·subst k1
    obtain rfl : n = 0 := by omega
    have hE := hid (show nodeD ⟨1, 0, xs, K⟩ = rightB xs K from by unfold nodeD; rw [if_neg hno, if_neg h, if_neg h', if_pos rfl])
    rw [hE.out]
    clear hno hpre h h'
    go_enter Tryz.func61, Tryz.ntmps61
    go_wp2_with fail
    go_quiet (fail)
    go_wp2_with fail
    refine (leafRight_any F A l c xs K _ (H1.out _ (((Chg.refl _ _).alloc _).drewN _)) hlh.out).mono ?_
    rintro e w1 ⟨rfl, hc1⟩
    go_wp2
    go_ret
    exact ⟨rfl, (((Chg.refl _ _).alloc _).drewN _).trans hc1⟩
   ·have hE := hid (show nodeD ⟨kd, n, xs, K⟩ = (decide (l = 0) && decide (K = 0)) from by unfold nodeD; rw [if_neg hno, if_neg h, if_neg h', if_neg k1, ← hlh.out])
    rw [hE.out]
    have e1 : (kd == 1) = false := beq_eq_false_iff_ne.2 k1
    rcases hpre with k5 | ⟨k5, k0⟩
    ·subst k5
     clear hno
     go_enter Tryz.func61, Tryz.ntmps61
     go_wp2_with fail
     go_quiet (fail)
     go_wp2_with fail
     refine (zero_any K A l c _).mono ?_
     rintro e w1 ⟨rfl, hc1⟩
     go_wp2
     go_ret
     exact ⟨rfl, (((Chg.refl _ _).alloc _).drewN _).trans hc1⟩
    ·subst k0
     have e5 : (kd == 5) = false := beq_eq_false_iff_ne.2 k5
     clear hno k5 k1
     go_enter Tryz.func61, Tryz.ntmps61
     go_wp2_with fail
     go_quiet (fail)
     go_wp2_with fail
     refine (zero_any K A l c _).mono ?_
     rintro e w1 ⟨rfl, hc1⟩
     go_wp2
     go_ret
     exact ⟨rfl, (((Chg.refl _ _).alloc _).drewN _).trans hc1⟩
end Go.Proofs.YtoelilejohfglaaGreat
namespace Go.Proofs.YtoelilejohfglaaGreat
open Go.RowKit
set_option linter.unusedVariables false
set_option linter.unusedSimpArgs false
attribute [local go_sem ↓] Go.wp_at_zero Go.wp_at_succ
theorem map_split {α β : Type} {f : α → β} {ps : List α} {A B : List β} (h : ps.map f = A ++ B) : ∃ p q, ps = p ++ q ∧ p.map f = A ∧ q.map f = B := by
 obtain ⟨a, b, h1, h2, h3⟩ := List.map_eq_append_iff.1 h
 exact ⟨a, b, h1, h2, h3⟩
def DpInv (w : World) (t : GT) (atv ov iv : Value) (wr : World) : Prop :=
 ∃ (dn rs : List GT), Hid (t.kids = dn ++ rs) ∧ iv = .int .i64 dn.length ∧ atv = .int .i64 ((dn.flatMap GT.flat).length + 1 : Nat) ∧ ov = .int .i64 (maxD dn : Nat) ∧ Chg Nothing w wr
theorem kids_len (t : GT) : t.kids.length ≤ 2 := by cases t <;> simp [GT.kids]
theorem deep_le (t : GT) : t.deep ≤ t.flat.length := by
 induction t with
 | leaf x => simp [GT.deep, GT.flat]
 | one x a ih => simp [GT.deep, GT.flat]; omega
 | two x a b iha ihb => simp [GT.deep, GT.flat]; omega
theorem maxD_le (ts : List GT) : maxD ts ≤ (ts.flatMap GT.flat).length := by
 have : ∀ (ts : List GT) (m : Nat), ts.foldl (fun m t => max m t.deep) m ≤ m + (ts.flatMap GT.flat).length := by
  intro ts
  induction ts with
  | nil => intro m; simp
  | cons t ts ih =>
   intro m
   have h1 := ih (max m t.deep)
   have h2 := deep_le t
   simp only [List.foldl_cons, List.flatMap_cons, List.length_append]
   omega
 have := this ts 0
 unfold maxD; omega
theorem deep_any (m : Nat) : ∀ (t : GT) (F : Nat → Prop) (A : Option Addr) (n c : Nat) (ps : List NP) (w : World), t.flat.length ≤ m → t.ok → NRow F w A n c ps → ps.map NP.x = t.flat → n ≤ 1000000 →
  Calls Tryz.prog 93 #[.slice A n c] w fun e w' => e = .returned (.int .i64 (t.deep : Nat)) ∧ Chg Nothing w w' := by
 induction m with
 | zero => intro t F A n c ps w hm; have := t.flat_pos; omega
 | succ m ih =>
  intro t F A n c ps w hm ht H hps hnb
  have hle := H.row.le
  have hmx := H.row.max
  have hlen := H.len
  have hnl : n = t.flat.length := by rw [← hlen, ← hps, List.length_map]
  have hn0 : 0 < n := by have := t.flat_pos; omega
  have hn0' : (0 : Int) < (n : Int) := by omega
  obtain ⟨g, o, p, hA, -, hgl, hp, -, hpr, c0, c1, c2, c3⟩ := H.four hn0
  have hroot : p.x = t.root := by
   rw [hp]
   have : ps.map NP.x = t.root :: t.kids.flatMap GT.flat := by rw [hps, t.kids_flat]
   cases ps with
   | nil => cases this
   | cons q qs => simp only [List.map_cons, List.cons.injEq] at this; exact this.1
  have har := hid (GT.kids_ar ht)
  have hcl := hid (fun w => arity_any p.x.kind p.x.n p.x.K p.A p.l p.c w)
  rw [hroot, har.out] at hcl
  have hkl := kids_len t
  have hdp := hid (GT.kids_deep t)
  have HH := hid H
  have htH := hid ht
  have hpsH := hid hps
  have hnlH := hid hnl
  have hmH := hid hm
  have hmax := hid (maxD_le t.kids)
  have ihH := hid ih
  rw [hroot] at c0 c1 c3
  rw [hdp.out]
  rw [Nat.zero_mul, Nat.add_zero] at c0 c1 c2 c3
  generalize t.root.kind = rk at c0 hcl
  generalize t.root.n = rn at c1 hcl
  generalize t.root.K = rK at c3 hcl
  subst hA
  clear H ih hps ht hm hp hpr hroot hnl hlen
  go_enter Tryz.func93, Tryz.ntmps93
  go_wp2_with fail
  refine (hcl.out _).mono ?_
  rintro e w1 ⟨rfl, hc1⟩
  have HH1 := hid (HH.out.calm hc1)
  have hC1 := hid hc1
  clear hc1 c0 c1 c2 c3 hgl
  go_wp2_with fail
  go_loopw [4, 3, 10] (fun atv ov iv wr => DpInv w1 t atv ov iv wr) (fun _ _ iv _ => t.kids.length - (intOf iv).toNat)
  case atStart => exact ⟨[], t.kids, hid rfl, rfl, rfl, rfl, Chg.refl _ _⟩
  case round =>
   obtain ⟨dn, rs, hkk, rfl, rfl, rfl, hchg⟩ := hrel
   have hlk : dn.length + rs.length = t.kids.length := by rw [hkk.out, List.length_append]
   cases rs with
   | nil =>
    have hd : decide (dn.length < t.kids.length) = false := decide_eq_false (by simp at hlk; omega)
    have hdk := hid (show maxD dn = maxD t.kids from by rw [hkk.out, List.append_nil])
    have hbd : maxD t.kids ≤ n := by
     have h1 := hmax.out
     have h2 := congrArg List.length t.kids_flat
     have h3 := hnlH.out
     simp only [List.length_cons] at h2; omega
    rw [hdk.out]
    go_wp2
    go_ret
    exact ⟨rfl, hC1.out.trans hchg⟩
   | cons k rs =>
    have hd : decide (dn.length < t.kids.length) = true := decide_eq_true (by simp at hlk; omega)
    have hkm := hid (show k ∈ t.kids from by rw [hkk.out]; simp)
    have hsp : ps.map NP.x = (t.root :: dn.flatMap GT.flat) ++ (k.flat ++ rs.flatMap GT.flat) := by rw [hpsH.out, t.kids_flat, hkk.out]; simp
    obtain ⟨p1, p23, e1, hm1, hm23⟩ := map_split hsp
    obtain ⟨p2, p3, e2, hm2, hm3⟩ := map_split hm23
    subst e1 e2
    have hl1 : p1.length = (dn.flatMap GT.flat).length + 1 := by rw [← List.length_map (f := NP.x), hm1]; simp
    have hl2 : p2.length = k.flat.length := by rw [← List.length_map (f := NP.x), hm2]
    have hnn : n = p1.length + p2.length + p3.length := by rw [← HH.out.len]; simp; omega
    have hks := hid (GT.kids_less k hkm.out)
    have hko := hid (GT.kids_ok htH.out k hkm.out)
    have hHr := HH1.out.calm hchg
    have hrow1 := hid (by have := (show NRow F wr (some ⟨g, o, none⟩) n c (p1 ++ (p2 ++ p3) ++ []) from by simpa using hHr).cut; exact this)
    have hrow2 := hid (by have := (show NRow F wr (some ⟨g, o, none⟩) n c (p1 ++ p2 ++ p3) from by simpa using hHr).cut; exact this)
    have hr1 := run_from elemNd sizeNd (some ⟨g, o, none⟩) n c (((dn.flatMap GT.flat).length + 1 : Nat) : Int) p1.length (by rw [hl1]) (by omega)
    have hr2 := run_between elemNd sizeNd (some ⟨g, o, none⟩) n c (((dn.flatMap GT.flat).length + 1 : Nat) : Int) ((((dn.flatMap GT.flat).length + 1 : Nat) : Int) + (k.flat.length : Nat)) p1.length (p1.length + p2.length) (by rw [hl1]) (by omega) (by omega) (by omega)
    have hszk := hid (show sizeN ((p2 ++ p3).map NP.x) = k.flat.length from by rw [List.map_append, hm2]; exact sizeN_tree k _ hko.out)
    have hbd2 : maxD dn ≤ n := by have := maxD_le dn; omega
    have hbk : k.deep ≤ n := by have := deep_le k; omega
    have hkp : 0 < k.flat.length := k.flat_pos
    have hnn' : p1.length + k.flat.length ≤ n := by omega
    have hs2 : p2.length + p3.length = n - p1.length := by omega
    have hs3 : p1.length + p2.length - p1.length = p2.length := by omega
    rw [hs3] at hr2
    have hrow1' := hid (show NRow F wr (pieceA (some ⟨g, o, none⟩) p1.length c 4) (n - p1.length) (c - p1.length) (p2 ++ p3) from by rw [← hs2, ← List.length_append]; exact hrow1.out)
    have hmd := hid (maxD_snoc dn k)
    have hat : ((dn.flatMap GT.flat).length + 1 : Nat) = p1.length := hl1.symm
    rw [hat] at hr1 hr2 ⊢
    replace hl1 := hid hl1
    replace hl2 := hid hl2
    replace hnn := hid hnn
    replace hs2 := hid hs2
    replace hs3 := hid hs3
    replace hat := hid hat
    replace hlk := hid hlk
    have hdn0 : (0 : Int) ≤ (dn.length : Int) := by omega
    have hdn2 : (dn.length : Int) ≤ 2 := by have := hlk.out; omega
    replace hm2 := hid hm2
    clear hsp hm1 hm23 hm3 hHr
    go_wp2_with fail
    refine (size_any F _ _ _ (p2 ++ p3) _ hrow1'.out (by omega)).mono ?_
    rintro e w2 ⟨rfl, hc2⟩
    rw [hszk.out]
    have hC2 := hid (hchg.trans hc2)
    have hrow3 := hid (hrow2.out.calm hc2)
    clear hc2 hchg
    go_wp2_with fail
    have hp2 : p2.length ≤ 1000000 := by have := hl2.out; omega
    refine (ihH.out k F _ _ _ p2 _ (by have h1 := hks.out; have h2 := hmH.out; omega) hko.out hrow3.out hm2.out hp2).mono ?_
    rintro e w3 ⟨rfl, hc3⟩
    have hC3 := hid (hC2.out.trans hc3)
    clear hc3
    go_wp2
    go_roundw
    case rel => exact ⟨dn ++ [k], rs, hid (by rw [hkk.out]; simp), by rw [List.length_append]; rfl, by have h1 := hl1.out; have h2 := hl2.out; rw [List.flatMap_append, List.length_append]; simp only [List.flatMap_cons, List.flatMap_nil, List.append_nil]; exact congrArg (Value.int .i64) (by omega), by rw [hmd.out]; exact congrArg (Value.int .i64) (by omega), hC3.out⟩
    case measure => have h := hlk.out; simp only [List.length_cons] at h; simp [intOf]; omega
end Go.Proofs.YtoelilejohfglaaGreat
namespace Go.Proofs.YtoelilejohfglaaGreat
open Go.RowKit
set_option linter.unusedVariables false
set_option linter.unusedSimpArgs false
attribute [local go_sem ↓] Go.wp_at_zero Go.wp_at_succ
theorem Depth_any (F : Nat → Prop) (A : Option Addr) (n c : Nat) (ps : List NP) (w : World) (H : NRow F w A n c ps) (hn : n ≤ 1000000) :
  Calls Tryz.prog 62 #[.slice A n c] w fun e w' => e = .returned (.int .i64 (depthN (ps.map NP.x) : Nat)) ∧ Chg Nothing w w' := by
 have HH := hid H
 have hlen : (ps.map NP.x).length = n := by rw [List.length_map, H.len]
 clear H
 rcases size_depth (ps.map NP.x) with ⟨h0, hs, t, ht, e⟩ | ⟨hs, hd⟩
 ·have hdn := hid (show depthN (ps.map NP.x) = t.deep from by rw [e, depthN_tree ht])
  have h0n : n ≠ 0 := by intro h; exact h0 (List.eq_nil_of_length_eq_zero (by omega))
  have hb0 : ((n : Int) == 0) = false := beq_eq_false_iff_ne.2 (by omega)
  rw [hdn.out]
  have hsz := hid (show sizeN (ps.map NP.x) = n from by rw [hs, hlen])
  have hth := hid ht
  have eh := hid e
  clear h0 hs ht e hlen h0n
  go_enter Tryz.func62, Tryz.ntmps62
  go_wp2_with fail
  refine (size_any F A n c ps _ HH.out hn).mono ?_
  rintro e w1 ⟨rfl, hc1⟩
  rw [hsz.out]
  have hC1 := hid hc1
  clear hc1
  go_wp2_with fail
  refine (deep_any _ t F A n c ps _ (Nat.le_refl _) hth.out (HH.out.calm hC1.out) eh.out hn).mono ?_
  rintro e w2 ⟨rfl, hc2⟩
  go_wp2
  go_ret
  exact ⟨rfl, hC1.out.trans hc2⟩
 ·rw [hd]
  by_cases h0 : n = 0
  ·subst h0
   clear hs hd hlen
   go_enter Tryz.func62, Tryz.ntmps62
   go_wp2
   go_ret
   exact ⟨rfl, Chg.refl _ _⟩
  ·have hb0 : ((n : Int) == 0) = false := beq_eq_false_iff_ne.2 (by omega)
   have hne : ((sizeN (ps.map NP.x) : Int) != (n : Int)) = true := by
    rw [bne_iff_ne]
    rcases hs with h | h
    ·rw [h] at hlen; simp at hlen; omega
    ·rw [hlen] at h; omega
   clear hs hd hlen h0
   go_enter Tryz.func62, Tryz.ntmps62
   go_wp2_with fail
   refine (size_any F A n c ps _ HH.out hn).mono ?_
   rintro e w1 ⟨rfl, hc1⟩
   go_wp2
   go_ret
   exact ⟨rfl, hc1⟩
theorem notNode_any (F : Nat → Prop) (kd n K : Int) (A : Option Addr) (l c : Nat) (xs : List Cls) (w : World) (H : ClsRow F w A l c xs) (hl : xs.length = l) :
  Calls Tryz.prog 60 #[.agg #[.int .i64 kd, .int .i64 n, .slice A l c, .int .i64 K]] w fun e w' => e = .returned (.bool (!nodeD ⟨kd, n, xs, K⟩)) ∧ Chg Nothing w w' := by
 have hX := Blk.new w #[.int .i64 kd, .int .i64 n, .slice A l c, .int .i64 K] 55
 have x0 := hX.cell 0 rfl
 have x1 := hX.cell 1 rfl
 have x2 := hX.cell 2 rfl
 have x3 := hX.cell 3 rfl
 clear hX
 have H1 := hid (H.chg ((Chg.refl Nothing w).alloc (.cells #[.int .i64 kd, .int .i64 n, .slice A l c, .int .i64 K] 55)) (fun _ _ _ h => h))
 have hlh := hid hl
 clear H hl
 go_enter Tryz.func60, Tryz.ntmps60
 go_wp2_with fail
 refine (node_any F kd n K A l c xs _ H1.out hlh.out).mono ?_
 rintro e w1 ⟨rfl, hc1⟩
 go_wp2
 go_ret
 exact ⟨rfl, ((Chg.refl Nothing w).alloc _).trans hc1⟩
def IxfInv (L : List Nd) (w : World) (iv : Value) (wr : World) : Prop := ∃ k : Nat, k ≤ L.length ∧ iv = .int .i64 k ∧ Hid ((L.take k).any (fun x => !nodeD x) = false) ∧ Chg Nothing w wr
def IxfAns (L : List Nd) (w : World) (e : Ending) (w' : World) : Prop := ∃ r : Int, e = .returned (.int .i64 r) ∧ decide (0 ≤ r) = L.any (fun x => !nodeD x) ∧ Chg Nothing w w'
theorem take_nd {ps : List NP} {k : Nat} (h : k < ps.length) : (ps.map NP.x).take (k + 1) = (ps.map NP.x).take k ++ [(ps.getD k np0).x] := by
 rw [List.take_succ_eq_append_getElem (by simpa using h)]
 simp [h]
theorem indexFunc_any (F : Nat → Prop) (A : Option Addr) (n c : Nat) (ps : List NP) (w : World) (H : NRow F w A n c ps) :
  Calls Tryz.prog 89 #[.slice A n c, .func (.func 60) #[] #[]] w (IxfAns (ps.map NP.x) w) := by
 have HH := hid H
 have hle := H.row.le
 have hmx := H.row.max
 have hlen := hid H.len
 clear H
 go_enter Tryz.func89, Tryz.ntmps89
 go_wp2_with fail
 go_loopw [8] (fun iv wr => IxfInv (ps.map NP.x) w iv wr) (fun iv _ => n - (intOf iv).toNat)
 case atStart => exact ⟨0, Nat.zero_le _, rfl, hid rfl, Chg.refl _ _⟩
 case round =>
  obtain ⟨k, hk, rfl, hall, hchg⟩ := hrel
  rw [List.length_map, hlen.out] at hk
  rcases Nat.lt_or_ge k n with hkn | hkn
  ·obtain ⟨g, o, p, rfl, -, hgl, hp, hpm, hpr, c0, c1, c2, c3⟩ := (HH.out.calm hchg).four hkn
   have htk := hid (take_nd (ps := ps) (k := k) (by rw [hlen.out]; exact hkn))
   rw [← hp] at htk
   have hmem := hid (show p.x ∈ ps.map NP.x from List.mem_map_of_mem hpm)
   replace hp := hid hp
   have hcl := hid (fun w' (hc : Chg Nothing wr w') => notNode_any F p.x.kind p.x.n p.x.K p.A p.l p.c p.x.p w' (hpr.chg hc (fun _ _ _ h => h)).row hpr.len)
   clear hpr hpm
   have hk0 : (0 : Int) ≤ (k : Int) := by omega
   have hkn' : (k : Int) < (n : Int) := by omega
   by_cases hb : nodeD p.x = true
   ·have hcl2 := hid (fun w' (hc : Chg Nothing wr w') => by have := hcl.out w' hc; rw [show (⟨p.x.kind, p.x.n, p.x.p, p.x.K⟩ : Nd) = p.x from rfl, hb] at this; exact this)
    have hnx := hid (show ((ps.map NP.x).take (k + 1)).any (fun x => !nodeD x) = false from by rw [htk.out, List.any_append, hall.out]; simp [hb])
    replace hb := hid hb
    go_wp2_with fail
    refine (hcl2.out _ (Chg.refl _ _)).mono ?_
    rintro e w1 ⟨rfl, hc1⟩
    have hC := hid (hchg.trans hc1)
    clear hc1 hchg c0 c1 c2 c3
    go_wp2
    go_roundw
    case rel => exact ⟨k + 1, by rw [List.length_map, hlen.out]; exact hkn, by go_num, hnx, hC.out⟩
    case measure => simp [intOf]; omega
   ·have hb' : nodeD p.x = false := by simpa using hb
    have hcl2 := hid (fun w' (hc : Chg Nothing wr w') => by have := hcl.out w' hc; rw [show (⟨p.x.kind, p.x.n, p.x.p, p.x.K⟩ : Nd) = p.x from rfl, hb'] at this; exact this)
    have hany := hid (show (ps.map NP.x).any (fun x => !nodeD x) = true from by rw [List.any_eq_true]; exact ⟨p.x, hmem.out, by rw [hb']; rfl⟩)
    replace hb' := hid hb'
    replace hb := hid hb
    go_wp2_with fail
    refine (hcl2.out _ (Chg.refl _ _)).mono ?_
    rintro e w1 ⟨rfl, hc1⟩
    have hC := hid (hchg.trans hc1)
    clear hc1 hchg c0 c1 c2 c3
    go_wp2
    go_ret
    exact ⟨_, rfl, by rw [hany.out]; exact decide_eq_true hk0, hC.out⟩
  ·have hd : decide ((k : Int) < (n : Int)) = false := decide_eq_false (by omega)
   have hall2 := hid (show (ps.map NP.x).any (fun x => !nodeD x) = false from by
    have := hall.out
    rwa [List.take_of_length_le (by rw [List.length_map, hlen.out]; exact hkn)] at this)
   go_wp2
   go_ret
   exact ⟨-1, rfl, by rw [hall2.out]; rfl, hchg⟩
theorem containsFunc_any (F : Nat → Prop) (A : Option Addr) (n c : Nat) (ps : List NP) (w : World) (H : NRow F w A n c ps) :
  Calls Tryz.prog 59 #[.slice A n c, .func (.func 60) #[] #[]] w fun e w' => e = .returned (.bool ((ps.map NP.x).any fun x => !nodeD x)) ∧ Chg Nothing w w' := by
 have HH := hid H
 clear H
 go_enter Tryz.func59, Tryz.ntmps59
 go_wp2_with fail
 refine (indexFunc_any F A n c ps _ HH.out).mono ?_
 rintro e w1 ⟨r, rfl, hr, hc⟩
 have hb := hid hr
 clear hr
 go_wp2
 go_ret
 exact ⟨by rw [← hb.out]; rfl, hc⟩
theorem any_all (L : List Nd) : (L.any fun x => !nodeD x) = !(L.all nodeD) := by rw [List.all_eq_not_any_not, Bool.not_not]
theorem Right_any (F : Nat → Prop) (A : Option Addr) (n c : Nat) (ps : List NP) (w : World) (H : NRow F w A n c ps) (hn : n ≤ 1000000) :
  Calls Tryz.prog 28 #[.slice A n c] w fun e w' => e = .returned (.bool (rightN (ps.map NP.x))) ∧ Chg Nothing w w' := by
 have HH := hid H
 have hlen : (ps.map NP.x).length = n := by rw [List.length_map, H.len]
 clear H
 by_cases h64 : 64 < n
 ·have hE := hid (show rightN (ps.map NP.x) = false from by unfold rightN; rw [hlen, decide_eq_false (by omega : ¬ n ≤ 64)]; rfl)
  rw [hE.out]
  have hb : (64 : Int) < (n : Int) := by omega
  clear hlen
  go_enter Tryz.func28, Tryz.ntmps28
  go_wp2
  go_ret
  exact ⟨rfl, Chg.refl _ _⟩
 ·have hb : ¬ (64 : Int) < (n : Int) := by omega
  have hC := hid (fun w => containsFunc_any F A n c ps w)
  simp only [any_all] at hC
  cases hall : (ps.map NP.x).all nodeD with
  | false =>
   have hE := hid (show rightN (ps.map NP.x) = false from by unfold rightN; rw [hall]; simp)
   rw [hE.out]
   rw [hall] at hC
   replace hall := hid hall
   clear hlen
   go_enter Tryz.func28, Tryz.ntmps28
   go_wp2_with fail
   refine (hC.out _ HH.out).mono ?_
   rintro e w1 ⟨rfl, hc1⟩
   go_wp2
   go_ret
   exact ⟨rfl, hc1⟩
  | true =>
   have hE := hid (show rightN (ps.map NP.x) = (decide (1 ≤ depthN (ps.map NP.x)) && decide (depthN (ps.map NP.x) ≤ 16)) from by unfold rightN; rw [hall, hlen, decide_eq_true (by omega : n ≤ 64)]; rfl)
   rw [hE.out]
   rw [hall] at hC
   replace hall := hid hall
   clear hlen
   have hD := hid (fun w => Depth_any F A n c ps w)
   generalize depthN (ps.map NP.x) = d at hD hE ⊢
   have hcs : d = 0 ∨ (1 ≤ d ∧ d ≤ 16) ∨ (1 ≤ d ∧ 16 < d) := by omega
   rcases hcs with rfl | ⟨h1, h2⟩ | ⟨h1, h2⟩
   ·go_enter Tryz.func28, Tryz.ntmps28
    go_wp2_with fail
    refine (hC.out _ HH.out).mono ?_
    rintro e w1 ⟨rfl, hc1⟩
    have hC1 := hid hc1
    clear hc1
    go_wp2_with fail
    refine (hD.out _ (HH.out.calm hC1.out) hn).mono ?_
    rintro e w2 ⟨rfl, hc2⟩
    go_wp2
    go_ret
    exact ⟨rfl, hC1.out.trans hc2⟩
   ·have e1 := hid (show (decide (1 ≤ d) && decide (d ≤ 16)) = true from by rw [decide_eq_true h1, decide_eq_true h2]; rfl)
    rw [e1.out]
    have h1' : (0 : Int) < (d : Int) := by omega
    have h2' : (d : Int) ≤ 16 := by omega
    go_enter Tryz.func28, Tryz.ntmps28
    go_wp2_with fail
    refine (hC.out _ HH.out).mono ?_
    rintro e w1 ⟨rfl, hc1⟩
    have hC1 := hid hc1
    clear hc1
    go_wp2_with fail
    refine (hD.out _ (HH.out.calm hC1.out) hn).mono ?_
    rintro e w2 ⟨rfl, hc2⟩
    go_wp2
    go_ret
    exact ⟨rfl, hC1.out.trans hc2⟩
   ·have e1 := hid (show (decide (1 ≤ d) && decide (d ≤ 16)) = false from by rw [decide_eq_false (by omega : ¬ d ≤ 16)]; simp)
    rw [e1.out]
    have h1' : (0 : Int) < (d : Int) := by omega
    have h2' : decide ((d : Int) ≤ 16) = false := decide_eq_false (by omega)
    go_enter Tryz.func28, Tryz.ntmps28
    go_wp2_with fail
    refine (hC.out _ HH.out).mono ?_
    rintro e w1 ⟨rfl, hc1⟩
    have hC1 := hid hc1
    clear hc1
    go_wp2_with fail
    refine (hD.out _ (HH.out.calm hC1.out) hn).mono ?_
    rintro e w2 ⟨rfl, hc2⟩
    go_wp2
    go_ret
    exact ⟨rfl, hC1.out.trans hc2⟩
end Go.Proofs.YtoelilejohfglaaGreat
namespace Go.Proofs.YtoelilejohfglaaGreat
open Go.RowKit
set_option linter.unusedVariables false
set_option linter.unusedSimpArgs false
attribute [local go_sem ↓] Go.wp_at_zero Go.wp_at_succ
end Go.Proofs.YtoelilejohfglaaGreat
namespace Go.Proofs.YtoelilejohfglaaGreat
open Go.RowKit
set_option linter.unusedVariables false
set_option linter.unusedSimpArgs false
attribute [local go_sem ↓] Go.wp_at_zero Go.wp_at_succ
theorem trees_any (k : Int) (w : World) : Calls Tryz.prog 132 #[.int .i64 k] w fun e w' => e = .returned (.int .i64 (arS k)) ∧ w = w' := by
 have hcs : k = 1 ∨ (k ≠ 1 ∧ k = 2) ∨ (k ≠ 1 ∧ k ≠ 2 ∧ k = 3) ∨ (k ≠ 1 ∧ k ≠ 2 ∧ k ≠ 3 ∧ k = 4) ∨ (k ≠ 1 ∧ k ≠ 2 ∧ k ≠ 3 ∧ k ≠ 4 ∧ k = 5) ∨ (k ≠ 1 ∧ k ≠ 2 ∧ k ≠ 3 ∧ k ≠ 4 ∧ k ≠ 5) := by omega
 rcases hcs with rfl | ⟨_, rfl⟩ | ⟨_, _, rfl⟩ | ⟨_, _, _, rfl⟩ | ⟨_, _, _, _, rfl⟩ | ⟨h1, h2, h3, h4, h5⟩
 ·go_enter Tryz.func132, Tryz.ntmps132
  go_wp2
  go_ret
  exact ⟨rfl, rfl⟩
 ·go_enter Tryz.func132, Tryz.ntmps132
  go_wp2
  go_ret
  exact ⟨rfl, rfl⟩
 ·go_enter Tryz.func132, Tryz.ntmps132
  go_wp2
  go_ret
  exact ⟨rfl, rfl⟩
 ·go_enter Tryz.func132, Tryz.ntmps132
  go_wp2
  go_ret
  exact ⟨rfl, rfl⟩
 ·go_enter Tryz.func132, Tryz.ntmps132
  go_wp2
  go_ret
  exact ⟨rfl, rfl⟩
 ·have e1 : (k == 1) = false := beq_eq_false_iff_ne.2 h1
  have e4 : (k == 4) = false := beq_eq_false_iff_ne.2 h4
  have e5 : (k == 5) = false := beq_eq_false_iff_ne.2 h5
  have e2 : (k == 2) = false := beq_eq_false_iff_ne.2 h2
  have e3 : (k == 3) = false := beq_eq_false_iff_ne.2 h3
  have hE := hid (show arS k = -1 from by unfold arS; rw [if_neg h1, if_neg (by omega), if_neg (by omega)])
  clear h1 h2 h3 h4 h5
  rw [hE.out]
  go_enter Tryz.func132, Tryz.ntmps132
  go_wp2
  go_ret
  exact ⟨rfl, rfl⟩
def WkInv (L : List Nd) (a : Nat) (ar : Nat) (nv dv kv : Value) (wr w : World) : Prop :=
 ∃ (dn : List GT) (r : List Nd), dn.length ≤ ar ∧ kv = .int .i64 dn.length ∧ nv = .int .i64 (a + 1 + (dn.flatMap GT.flat).length : Nat) ∧ dv = .int .i64 (maxD dn : Nat) ∧ Hid (L.drop (a + 1) = dn.flatMap GT.flat ++ r) ∧
  Hid (takeN ar (L.drop (a + 1)) = match takeN (ar - dn.length) r with | none => none | some (ts, q) => some (dn ++ ts, q)) ∧ Chg Nothing w wr
theorem walk_any (m : Nat) : ∀ (F : Nat → Prop) (A : Option Addr) (n c : Nat) (ps : List NP) (a : Nat) (w : World), NRow F w A n c ps → n - a ≤ m → a ≤ n → n ≤ 1000000 →
  Calls Tryz.prog 87 #[.slice A n c, .int .i64 a] w fun e w' => e = .returned (.tuple #[.int .i64 (walkV (ps.map NP.x) a).1, .int .i64 (walkV (ps.map NP.x) a).2]) ∧ Chg Nothing w w' := by
 induction m with
 | zero =>
  intro F A n c ps a w H hm ha hn
  obtain rfl : a = n := by omega
  have hE := hid (show walkV (ps.map NP.x) a = (-1, 0) from by unfold walkV; rw [List.drop_eq_nil_of_le (by rw [List.length_map, H.len]; exact Nat.le_refl _)]; rfl)
  rw [hE.out]
  clear H
  go_enter Tryz.func87, Tryz.ntmps87
  go_wp2
  go_ret2
  exact ⟨rfl, Chg.refl _ _⟩
 | succ m ih =>
  intro F A n c ps a w H hm ha hn
  have hle := H.row.le
  have hmx := H.row.max
  rcases Nat.lt_or_ge a n with han | han
  ·have hdr := drop_nd (ps := ps) (k := a) (by rw [H.len]; exact han)
   obtain ⟨g, o, p, rfl, -, hgl, hp, -, -, c0, c1, c2, c3⟩ := H.four han
   rw [← hp] at hdr
   clear hp c1 c2 c3
   have HH := hid H
   have ihH := hid ih
   have hlen := hid H.len
   have ha0 : (0 : Int) ≤ (a : Int) := by omega
   have han' : (a : Int) < (n : Int) := by omega
   have hnge : ¬ (n : Int) ≤ (a : Int) := by omega
   have hT := hid (trees_any p.x.kind)
   by_cases hneg : arS p.x.kind < 0
   ·have hE := hid (show walkV (ps.map NP.x) a = (-1, 0) from by unfold walkV; rw [hdr, tk_no _ _ hneg])
    rw [hE.out]
    have hb : decide (arS p.x.kind < 0) = true := decide_eq_true hneg
    clear H ih
    generalize arS p.x.kind = ar at *
    replace hdr := hid hdr
    go_enter Tryz.func87, Tryz.ntmps87
    go_wp2_with fail
    refine (hT.out _).mono ?_
    rintro e w1 ⟨rfl, rfl⟩
    go_wp2
    go_ret2
    exact ⟨rfl, Chg.refl _ _⟩
   ·obtain ⟨ar, hae⟩ : ∃ ar : Nat, arS p.x.kind = ar := ⟨(arS p.x.kind).toNat, by omega⟩
    have har2 : ar ≤ 2 := by have := arS_le p.x.kind; omega
    have hV := hid (show walkV (ps.map NP.x) a = match takeN ar ((ps.map NP.x).drop (a + 1)) with | none => (-1, 0) | some (ts, _) => (((a + 1 + (ts.flatMap GT.flat).length : Nat) : Int), ((maxD ts + 1 : Nat) : Int)) from by
     unfold walkV
     rw [hdr, tk_cons _ _ (by omega), hae, Int.toNat_natCast]
     cases h1 : takeN ar ((ps.map NP.x).drop (a + 1)) with
     | none => rfl
     | some q =>
      obtain ⟨ts, r⟩ := q
      have := takeN_len _ _ _ _ h1
      simp only []
      rw [mkT_flat (by omega), mkT_deep (by omega), List.length_cons]
      congr 2
      omega)
    rw [hae] at hT
    replace hdr := hid hdr
    replace hae := hid hae
    clear H ih hneg
    go_enter Tryz.func87, Tryz.ntmps87
    go_wp2_with fail
    refine (hT.out _).mono ?_
    rintro e w1 ⟨rfl, rfl⟩
    go_wp2_with fail
    go_loopw [6, 7, 8] (fun nv dv kv wr => WkInv (ps.map NP.x) a ar nv dv kv wr w) (fun _ _ kv _ => ar - (intOf kv).toNat)
    case atStart => exact ⟨[], _, Nat.zero_le _, rfl, rfl, rfl, hid rfl, hid (by rw [List.length_nil, Nat.sub_zero]; cases takeN ar ((ps.map NP.x).drop (a + 1)) <;> rfl), Chg.refl _ _⟩
    case round =>
     obtain ⟨dn, r, hdl, rfl, rfl, rfl, hdrop, htak, hchg⟩ := hrel
     have k0 := (hchg.cells.1 _ _ hgl).trans c0
     have hlr := congrArg List.length hdrop.out
     rw [List.length_append, List.length_drop, List.length_map, hlen.out] at hlr
     have hmd : maxD dn ≤ n := by have := maxD_le dn; omega
     obtain ⟨q, hqe⟩ : ∃ q, q = a + 1 + (dn.flatMap GT.flat).length := ⟨_, rfl⟩
     have hqn : q ≤ n := by omega
     have hqa : a + 1 ≤ q := by omega
     rw [← hqe]
     rcases Nat.lt_or_ge dn.length ar with hj | hj
     ·have hd : decide (dn.length < ar) = true := decide_eq_true hj
      have hdd : (ps.map NP.x).drop q = r := by
       rw [hqe, ← List.drop_drop, hdrop.out, List.drop_left]
      have hcall := hid (fun w' (hc : Chg Nothing w w') => ihH.out F (some ⟨g, o, none⟩) n c ps q w' (HH.out.calm hc) (by omega) (by omega) hn)
      have hsub : ar - dn.length = (ar - dn.length - 1) + 1 := by omega
      have htk := htak.out
      rw [hsub, takeN_succ] at htk
      unfold walkV at hcall
      rw [hdd] at hcall
      have hnx0 : (0 : Int) ≤ (q : Int) := by omega
      cases htr : tk r with
      | none =>
       rw [htr] at hcall htk
       simp only at hcall
       have hfin := hid (show walkV (ps.map NP.x) a = (-1, 0) from by rw [hV.out, htk])
       replace hlr := hid hlr
       replace hqe := hid hqe
       replace hdd := hid hdd
       replace hsub := hid hsub
       replace htk := hid htk
       replace htr := hid htr
       go_wp2_with fail
       refine (hT.out _).mono ?_
       rintro e w2 ⟨rfl, rfl⟩
       go_wp2_with fail
       refine (hcall.out _ hchg).mono ?_
       rintro e w3 ⟨rfl, hc3⟩
       go_wp2
       go_ret2
       exact ⟨by rw [hfin.out]; rfl, hchg.trans hc3⟩
      | some q =>
       obtain ⟨t, r2⟩ := q
       rw [htr] at hcall htk
       simp only at hcall htk
       have hts := (tk_some htr).2
       have hlt := congrArg List.length hts
       rw [List.length_append] at hlt
       have hnew1 := hid (show (ps.map NP.x).drop (a + 1) = (dn ++ [t]).flatMap GT.flat ++ r2 from by rw [hdrop.out, hts]; simp)
       have hnew2 := hid (show takeN ar ((ps.map NP.x).drop (a + 1)) = match takeN (ar - (dn ++ [t]).length) r2 with | none => none | some (ts, q) => some ((dn ++ [t]) ++ ts, q) from by
        rw [htk, List.length_append, List.length_singleton, show ar - (dn.length + 1) = ar - dn.length - 1 from by omega]
        cases takeN (ar - dn.length - 1) r2 with
        | none => rfl
        | some q => obtain ⟨us, s⟩ := q; simp)
       have hsn := hid (maxD_snoc dn t)
       have htd : t.deep ≤ n := by have := deep_le t; omega
       have hfl := hid (show a + 1 + ((dn ++ [t]).flatMap GT.flat).length = q + t.flat.length from by rw [hqe, List.flatMap_append, List.length_append]; simp; omega)
       have hdl2 : (dn.length : Int) ≤ 2 := by omega
       have hnn0 : ¬ (((q + t.flat.length : Nat) : Int) < 0) := by omega
       replace hlr := hid hlr
       replace hqe := hid hqe
       replace hdd := hid hdd
       replace hsub := hid hsub
       replace htk := hid htk
       replace htr := hid htr
       replace hts := hid hts
       replace hlt := hid hlt
       rcases Nat.lt_or_ge (maxD dn) t.deep with hmt | hmt
       ·have hgt : ((maxD dn : Nat) : Int) < ((t.deep : Nat) : Int) := by omega
        have hmx := hid (show max (maxD dn) t.deep = t.deep from by omega)
        go_wp2_with fail
        refine (hT.out _).mono ?_
        rintro e w2 ⟨rfl, rfl⟩
        go_wp2_with fail
        refine (hcall.out _ hchg).mono ?_
        rintro e w3 ⟨rfl, hc3⟩
        have hC3 := hid (hchg.trans hc3)
        clear hc3 hchg k0
        go_wp2
        go_roundw
        case rel => exact ⟨dn ++ [t], r2, by rw [List.length_append]; exact hj, by rw [List.length_append]; rfl, by rw [hfl.out]; rfl, by rw [hsn.out, hmx.out], hnew1, hnew2, hC3.out⟩
        case measure => simp [intOf]; omega
       ·have hgt : ¬ ((maxD dn : Nat) : Int) < ((t.deep : Nat) : Int) := by omega
        have hmx := hid (show max (maxD dn) t.deep = maxD dn from by omega)
        go_wp2_with fail
        refine (hT.out _).mono ?_
        rintro e w2 ⟨rfl, rfl⟩
        go_wp2_with fail
        refine (hcall.out _ hchg).mono ?_
        rintro e w3 ⟨rfl, hc3⟩
        have hC3 := hid (hchg.trans hc3)
        clear hc3 hchg k0
        go_wp2
        go_roundw
        case rel => exact ⟨dn ++ [t], r2, by rw [List.length_append]; exact hj, by rw [List.length_append]; rfl, by rw [hfl.out]; rfl, by rw [hsn.out, hmx.out], hnew1, hnew2, hC3.out⟩
        case measure => simp [intOf]; omega
     ·have hd : decide (dn.length < ar) = false := decide_eq_false (by omega)
      have he : ar - dn.length = 0 := by omega
      have hfin := hid (show walkV (ps.map NP.x) a = ((q : Int), ((maxD dn + 1 : Nat) : Int)) from by
       have htk := htak.out
       rw [he, takeN_zero] at htk
       rw [hV.out, htk, hqe]; simp)
      replace he := hid he
      replace hlr := hid hlr
      replace hqe := hid hqe
      go_wp2_with fail
      refine (hT.out _).mono ?_
      rintro e w2 ⟨rfl, rfl⟩
      go_wp2
      go_ret2
      exact ⟨by rw [hfin.out]; rfl, hchg⟩
  ·obtain rfl : a = n := by omega
   have hE := hid (show walkV (ps.map NP.x) a = (-1, 0) from by unfold walkV; rw [List.drop_eq_nil_of_le (by rw [List.length_map, H.len]; exact Nat.le_refl _)]; rfl)
   rw [hE.out]
   clear H
   go_enter Tryz.func87, Tryz.ntmps87
   go_wp2
   go_ret2
   exact ⟨rfl, Chg.refl _ _⟩
theorem walk_depth (L : List Nd) : (walkV L 0).1 ≠ L.length ∧ depthN L = 0 ∨ (walkV L 0).1 = L.length ∧ (walkV L 0).2 = (depthN L : Nat) := by
 unfold walkV depthN
 rw [List.drop_zero]
 show _ ∨ _
 cases h : tk L with
 | none => left; refine ⟨?_, ?_⟩; simp only []; omega; unfold tk at h; rw [h]
 | some p =>
  obtain ⟨t, r⟩ := p
  have hL := (tk_some h).2
  have hl := congrArg List.length hL
  rw [List.length_append] at hl
  unfold tk at h
  rw [h]
  cases r with
  | nil => right; simp at hl ⊢; omega
  | cons y ys => left; simp at hl ⊢; omega
theorem refDepth_any (F : Nat → Prop) (A : Option Addr) (n c : Nat) (ps : List NP) (w : World) (H : NRow F w A n c ps) (hn : n ≤ 1000000) :
  Calls Tryz.prog 57 #[.slice A n c] w fun e w' => e = .returned (.int .i64 (depthN (ps.map NP.x) : Nat)) ∧ Chg Nothing w w' := by
 have hW := hid (fun w' (h : NRow F w' A n c ps) => walk_any n F A n c ps 0 w' h (by omega) (by omega) hn)
 have HH := hid H
 have hlen : (ps.map NP.x).length = n := by rw [List.length_map, H.len]
 clear H
 have hwd := walk_depth (ps.map NP.x)
 rw [hlen] at hwd
 generalize (walkV (ps.map NP.x) 0).1 = v1 at hW hwd
 generalize (walkV (ps.map NP.x) 0).2 = v2 at hW hwd
 generalize depthN (ps.map NP.x) = d at hwd ⊢
 clear hlen
 rcases hwd with ⟨h1, rfl⟩ | ⟨rfl, rfl⟩
 ·have hb : (v1 != (n : Int)) = true := by rw [bne_iff_ne]; exact h1
  replace h1 := hid h1
  go_enter Tryz.func57, Tryz.ntmps57
  go_wp2_with fail
  refine (hW.out _ HH.out).mono ?_
  rintro e w1 ⟨rfl, hc1⟩
  go_wp2
  go_ret
  exact ⟨rfl, hc1⟩
 ·go_enter Tryz.func57, Tryz.ntmps57
  go_wp2_with fail
  refine (hW.out _ HH.out).mono ?_
  rintro e w1 ⟨rfl, hc1⟩
  go_wp2
  go_ret
  exact ⟨rfl, hc1⟩
end Go.Proofs.YtoelilejohfglaaGreat
namespace Go.Proofs.YtoelilejohfglaaGreat
open Go.RowKit
set_option linter.unusedVariables false
set_option linter.unusedSimpArgs false
attribute [local go_sem ↓] Go.wp_at_zero Go.wp_at_succ
theorem refNode_any (F : Nat → Prop) (kd n K : Int) (A : Option Addr) (l c : Nat) (xs : List Cls) (w : World) (H : ClsRow F w A l c xs) (hl : xs.length = l) :
  Calls Tryz.prog 56 #[.agg #[.int .i64 kd, .int .i64 n, .slice A l c, .int .i64 K]] w fun e w' => e = .returned (.bool (nodeD ⟨kd, n, xs, K⟩)) ∧ Chg Nothing w w' := by
 have hX := Blk.new w #[.int .i64 kd, .int .i64 n, .slice A l c, .int .i64 K] 55
 have x0 := hX.cell 0 rfl
 have x1 := hX.cell 1 rfl
 have x2 := hX.cell 2 rfl
 have x3 := hX.cell 3 rfl
 clear hX
 have hlh := hid hl
 have H1 := hid (H.chg ((Chg.refl Nothing w).alloc (.cells #[.int .i64 kd, .int .i64 n, .slice A l c, .int .i64 K] 55)) (fun _ _ _ h => h))
 clear H hl
 by_cases h5 : kd = 5
 ·subst h5
  have hcs : n < 0 ∨ (¬ n < 0 ∧ 1000000 < n) ∨ (¬ n < 0 ∧ ¬ 1000000 < n) := by omega
  rcases hcs with h | ⟨h, h'⟩ | ⟨h, h'⟩
  ·have hE := hid (show nodeD ⟨5, n, xs, K⟩ = false from by unfold nodeD; rw [if_neg (by simp), if_pos h])
   rw [hE.out]
   go_enter Tryz.func56, Tryz.ntmps56
   go_wp2
   go_ret
   exact ⟨rfl, (Chg.refl _ _).alloc _⟩
  ·have hE := hid (show nodeD ⟨5, n, xs, K⟩ = false from by unfold nodeD; rw [if_neg (by simp), if_neg h, if_pos h'])
   rw [hE.out]
   go_enter Tryz.func56, Tryz.ntmps56
   go_wp2
   go_ret
   exact ⟨rfl, (Chg.refl _ _).alloc _⟩
  ·have hE := hid (show nodeD ⟨5, n, xs, K⟩ = (decide (l = 0) && decide (K = 0)) from by unfold nodeD; rw [if_neg (by simp), if_neg h, if_neg h', if_neg (by simp), hlh.out])
   by_cases hl0 : l = 0
   ·subst hl0
    by_cases hK : K = 0
    ·subst hK
     go_enter Tryz.func56, Tryz.ntmps56
     go_wp2
     go_ret
     exact ⟨by rw [hE.out]; rfl, (Chg.refl _ _).alloc _⟩
    ·have e1 : (K == 0) = false := beq_eq_false_iff_ne.2 hK
     have hE2 := hid (show nodeD ⟨5, n, xs, K⟩ = false from by rw [hE.out, decide_eq_false hK]; rfl)
     replace hK := hid hK
     go_enter Tryz.func56, Tryz.ntmps56
     go_wp2
     go_ret
     exact ⟨by rw [hE2.out]; rfl, (Chg.refl _ _).alloc _⟩
   ·have e1 : ((l : Int) == 0) = false := beq_eq_false_iff_ne.2 (by omega)
    have hE2 := hid (show nodeD ⟨5, n, xs, K⟩ = false from by rw [hE.out, decide_eq_false hl0]; rfl)
    replace hl0 := hid hl0
    go_enter Tryz.func56, Tryz.ntmps56
    go_wp2
    go_ret
    exact ⟨by rw [hE2.out]; rfl, (Chg.refl _ _).alloc _⟩
 ·have e5 : (kd != 5) = true := by rw [bne_iff_ne]; exact h5
  by_cases hn : n = 0
  ·subst hn
   by_cases h1 : kd = 1
   ·subst h1
    have hE := hid (show nodeD ⟨1, 0, xs, K⟩ = rightB xs K from by unfold nodeD; rw [if_neg (by simp), if_neg (by simp), if_neg (by simp), if_pos rfl])
    rw [hE.out]
    clear h5
    go_enter Tryz.func56, Tryz.ntmps56
    go_wp2_with fail
    refine (refRight7_any F A l c xs K _ H1.out hlh.out).mono ?_
    rintro e w1 ⟨rfl, hc1⟩
    go_wp2
    go_ret
    exact ⟨rfl, ((Chg.refl _ _).alloc _).trans hc1⟩
   ·have e1 : (kd == 1) = false := beq_eq_false_iff_ne.2 h1
    have hE := hid (show nodeD ⟨kd, 0, xs, K⟩ = (decide (l = 0) && decide (K = 0)) from by unfold nodeD; rw [if_neg (by simp), if_neg (by simp), if_neg (by simp), if_neg h1, hlh.out])
    replace h1 := hid h1
    replace h5 := hid h5
    by_cases hl0 : l = 0
    ·subst hl0
     by_cases hK : K = 0
     ·subst hK
      go_enter Tryz.func56, Tryz.ntmps56
      go_wp2
      go_ret
      exact ⟨by rw [hE.out]; rfl, (Chg.refl _ _).alloc _⟩
     ·have e1 : (K == 0) = false := beq_eq_false_iff_ne.2 hK
      have hE2 := hid (show nodeD ⟨kd, 0, xs, K⟩ = false from by rw [hE.out, decide_eq_false hK]; rfl)
      replace hK := hid hK
      go_enter Tryz.func56, Tryz.ntmps56
      go_wp2
      go_ret
      exact ⟨by rw [hE2.out]; rfl, (Chg.refl _ _).alloc _⟩
    ·have e1 : ((l : Int) == 0) = false := beq_eq_false_iff_ne.2 (by omega)
     have hE2 := hid (show nodeD ⟨kd, 0, xs, K⟩ = false from by rw [hE.out, decide_eq_false hl0]; rfl)
     replace hl0 := hid hl0
     go_enter Tryz.func56, Tryz.ntmps56
     go_wp2
     go_ret
     exact ⟨by rw [hE2.out]; rfl, (Chg.refl _ _).alloc _⟩
  ·have en : (n != 0) = true := by rw [bne_iff_ne]; exact hn
   have hE := hid (show nodeD ⟨kd, n, xs, K⟩ = false from by unfold nodeD; exact if_pos ⟨h5, hn⟩)
   rw [hE.out]
   replace h5 := hid h5
   replace hn := hid hn
   go_enter Tryz.func56, Tryz.ntmps56
   go_wp2
   go_ret
   exact ⟨rfl, (Chg.refl _ _).alloc _⟩
def RgtInv (L : List Nd) (w : World) (iv : Value) (wr : World) : Prop := ∃ k : Nat, k ≤ L.length ∧ iv = .int .i64 k ∧ Hid ((L.take k).all nodeD = true) ∧ Chg Nothing w wr
theorem refRight_any (F : Nat → Prop) (A : Option Addr) (n c : Nat) (ps : List NP) (w : World) (H : NRow F w A n c ps) (hn : n ≤ 1000000) :
  Calls Tryz.prog 25 #[.slice A n c] w fun e w' => e = .returned (.bool (rightN (ps.map NP.x))) ∧ Chg Nothing w w' := by
 have HH := hid H
 have hle := H.row.le
 have hmx := H.row.max
 have hlen := hid H.len
 clear H
 go_enter Tryz.func25, Tryz.ntmps25
 go_wp2_with fail
 go_loopw [3] (fun iv wr => RgtInv (ps.map NP.x) w iv wr) (fun iv _ => n - (intOf iv).toNat)
 case atStart => exact ⟨0, Nat.zero_le _, rfl, hid rfl, Chg.refl _ _⟩
 case round =>
  obtain ⟨k, hk, rfl, hall, hchg⟩ := hrel
  rw [List.length_map, hlen.out] at hk
  rcases Nat.lt_or_ge k n with hkn | hkn
  ·obtain ⟨g, o, p, rfl, -, hgl, hp, hpm, hpr, c0, c1, c2, c3⟩ := (HH.out.calm hchg).four hkn
   have htk := hid (take_nd (ps := ps) (k := k) (by rw [hlen.out]; exact hkn))
   rw [← hp] at htk
   have hmem := hid (show p.x ∈ ps.map NP.x from List.mem_map_of_mem hpm)
   replace hp := hid hp
   have hcl := hid (refNode_any F p.x.kind p.x.n p.x.K p.A p.l p.c p.x.p wr hpr.row hpr.len)
   clear hpr hpm
   have hk0 : (0 : Int) ≤ (k : Int) := by omega
   have hkn' : (k : Int) < (n : Int) := by omega
   by_cases hb : nodeD p.x = true
   ·have hcl2 := hid (by have := hcl.out; rw [show (⟨p.x.kind, p.x.n, p.x.p, p.x.K⟩ : Nd) = p.x from rfl, hb] at this; exact this)
    have hnx := hid (show ((ps.map NP.x).take (k + 1)).all nodeD = true from by rw [htk.out, List.all_append, hall.out]; simp [hb])
    replace hb := hid hb
    go_wp2_with fail
    refine hcl2.out.mono ?_
    rintro e w1 ⟨rfl, hc1⟩
    have hC := hid (hchg.trans hc1)
    clear hc1 hchg c0 c1 c2 c3
    go_wp2
    go_roundw
    case rel => exact ⟨k + 1, by rw [List.length_map, hlen.out]; exact hkn, by go_num, hnx, hC.out⟩
    case measure => simp [intOf]; omega
   ·have hb' : nodeD p.x = false := by simpa using hb
    have hcl2 := hid (by have := hcl.out; rw [show (⟨p.x.kind, p.x.n, p.x.p, p.x.K⟩ : Nd) = p.x from rfl, hb'] at this; exact this)
    have hany := hid (show rightN (ps.map NP.x) = false from by
     have : (ps.map NP.x).all nodeD = false := by rw [Bool.eq_false_iff]; intro h; rw [List.all_eq_true] at h; exact hb (h _ hmem.out)
     unfold rightN; rw [this]; simp)
    replace hb' := hid hb'
    replace hb := hid hb
    go_wp2_with fail
    refine hcl2.out.mono ?_
    rintro e w1 ⟨rfl, hc1⟩
    have hC := hid (hchg.trans hc1)
    clear hc1 hchg c0 c1 c2 c3
    go_wp2
    go_ret
    exact ⟨by rw [hany.out]; rfl, hC.out⟩
  ·have hd : decide ((k : Int) < (n : Int)) = false := decide_eq_false (by omega)
   have hR := hid (show rightN (ps.map NP.x) = (decide (n ≤ 64) && decide (1 ≤ depthN (ps.map NP.x)) && decide (depthN (ps.map NP.x) ≤ 16)) from by
    have := hall.out
    rw [List.take_of_length_le (by rw [List.length_map, hlen.out]; exact hkn)] at this
    unfold rightN; rw [this, List.length_map, hlen.out, Bool.and_true])
   have hD := hid (fun w' (hc : Chg Nothing w w') => refDepth_any F A n c ps w' (HH.out.calm hc) hn)
   generalize depthN (ps.map NP.x) = dd at hD hR
   have hcs : 64 < n ∨ (n ≤ 64 ∧ dd = 0) ∨ (n ≤ 64 ∧ 1 ≤ dd ∧ dd ≤ 16) ∨ (n ≤ 64 ∧ 1 ≤ dd ∧ 16 < dd) := by omega
   rcases hcs with h | ⟨h, rfl⟩ | ⟨h, h1, h2⟩ | ⟨h, h1, h2⟩
   ·have hE := hid (show rightN (ps.map NP.x) = false from by rw [hR.out, decide_eq_false (by omega : ¬ n ≤ 64)]; rfl)
    have b1 : decide ((n : Int) ≤ 64) = false := decide_eq_false (by omega)
    go_wp2
    go_ret
    exact ⟨by rw [hE.out]; rfl, hchg⟩
   ·have hE := hid (show rightN (ps.map NP.x) = false from by rw [hR.out]; simp)
    have b1 : decide ((n : Int) ≤ 64) = true := decide_eq_true (by omega)
    go_wp2_with fail
    refine (hD.out _ hchg).mono ?_
    rintro e w2 ⟨rfl, hc2⟩
    go_wp2
    go_ret
    exact ⟨by rw [hE.out]; rfl, hchg.trans hc2⟩
   ·have hE := hid (show rightN (ps.map NP.x) = true from by rw [hR.out, decide_eq_true h, decide_eq_true h1, decide_eq_true h2]; rfl)
    have b1 : decide ((n : Int) ≤ 64) = true := decide_eq_true (by omega)
    have b2 : decide ((1 : Int) ≤ (dd : Int)) = true := decide_eq_true (by omega)
    have b3 : decide ((dd : Int) ≤ 16) = true := decide_eq_true (by omega)
    go_wp2_with fail
    refine (hD.out _ hchg).mono ?_
    rintro e w2 ⟨rfl, hc2⟩
    have hC2 := hid (hchg.trans hc2)
    go_wp2_with fail
    refine (hD.out _ hC2.out).mono ?_
    rintro e w3 ⟨rfl, hc3⟩
    go_wp2
    go_ret
    exact ⟨by rw [hE.out]; rfl, hC2.out.trans hc3⟩
   ·have hE := hid (show rightN (ps.map NP.x) = false from by rw [hR.out, decide_eq_false (by omega : ¬ dd ≤ 16)]; simp)
    have b1 : decide ((n : Int) ≤ 64) = true := decide_eq_true (by omega)
    have b2 : decide ((1 : Int) ≤ (dd : Int)) = true := decide_eq_true (by omega)
    have b3 : decide ((dd : Int) ≤ 16) = false := decide_eq_false (by omega)
    go_wp2_with fail
    refine (hD.out _ hchg).mono ?_
    rintro e w2 ⟨rfl, hc2⟩
    have hC2 := hid (hchg.trans hc2)
    go_wp2_with fail
    refine (hD.out _ hC2.out).mono ?_
    rintro e w3 ⟨rfl, hc3⟩
    go_wp2
    go_ret
    exact ⟨by rw [hE.out]; rfl, hC2.out.trans hc3⟩
end Go.Proofs.YtoelilejohfglaaGreat
namespace Go.Proofs.YtoelilejohfglaaGreat
open Go.RowKit
set_option linter.unusedVariables false
set_option linter.unusedSimpArgs false
attribute [local go_sem ↓] Go.wp_at_zero Go.wp_at_succ
structure LP where
 p : List Cls
 K : Int
 A : Option Addr
 l : Nat
 c : Nat
def lfL (q : LP) : List Value := [.slice q.A q.l q.c, .int .i64 q.K]
theorem lfL_len (q : LP) : (lfL q).length = 2 := rfl
theorem lfL_one (q : LP) : ∀ u ∈ lfL q, u.oneCell' = true := by intro u hu; unfold lfL at hu; simp at hu; rcases hu with rfl | rfl <;> rfl
def lp0 : LP := ⟨[], 0, none, 0, 0⟩
structure LfRead (F : Nat → Prop) (w : World) (q : LP) : Prop where
 row : RowAt 4 F w q.A q.l q.c (q.p.flatMap clsL)
 len : q.p.length = q.l
structure LRow (F : Nat → Prop) (w : World) (A : Option Addr) (n c : Nat) (qs : List LP) : Prop where
 len : qs.length = n
 row : RowAt 2 F w A n c (qs.flatMap lfL)
 els : ∀ q ∈ qs, LfRead F w q
theorem LfRead.chg {F S : Nat → Prop} {w w' : World} {q : LP} (h : LfRead F w q) (hc : Chg S w w') (hd : ∀ k, k < w.heap.size → F k → ¬ S k) : LfRead F w' q := ⟨h.row.chg hc hd, h.len⟩
theorem LRow.chg {F S : Nat → Prop} {w w' : World} {A : Option Addr} {n c : Nat} {qs : List LP} (h : LRow F w A n c qs) (hc : Chg S w w') (hd : ∀ k, k < w.heap.size → F k → ¬ S k) : LRow F w' A n c qs :=
 ⟨h.len, h.row.chg hc hd, fun q hq => (h.els q hq).chg hc hd⟩
theorem LRow.calm {F : Nat → Prop} {w w' : World} {A : Option Addr} {n c : Nat} {qs : List LP} (h : LRow F w A n c qs) (hc : Chg Nothing w w') : LRow F w' A n c qs := h.chg hc (fun _ _ _ h => h)
theorem LRow.two {F : Nat → Prop} {w : World} {A : Option Addr} {n c : Nat} {qs : List LP} (h : LRow F w A n c qs) {k : Nat} (hk : k < n) :
  ∃ g o q, A = some ⟨g, o, none⟩ ∧ F g ∧ g < w.heap.size ∧ q = qs.getD k lp0 ∧ q ∈ qs ∧ LfRead F w q ∧ w.cell? ⟨g, o + k * 2, none⟩ = some (.slice q.A q.l q.c) ∧ w.cell? ⟨g, o + k * 2 + 1, none⟩ = some (.int .i64 q.K) := by
 obtain ⟨g, o, e, hF, hlt, hc⟩ := h.row.cell hk (by decide)
 have c0 := hc 0 (by decide)
 have c1 := hc 1 (by decide)
 have hkl : k < qs.length := by rw [h.len]; exact hk
 rw [flat_getD lfL 2 lfL_len lp0 qs k _ hkl (by decide)] at c0 c1
 have hm : qs.getD k lp0 ∈ qs := by simp [hkl]
 exact ⟨g, o, qs.getD k lp0, e, hF, hlt, rfl, hm, h.els _ hm, c0, c1⟩
def toLP (p : NP) : LP := ⟨p.x.p, p.x.K, p.A, p.l, p.c⟩
def leavesP (ps : List NP) : List LP := (ps.filter fun p => decide (p.x.kind = 1)).map toLP
theorem infoLf : (Tryz.prog.info? 34).map (fun i => (i.zero, i.size, i.bytes)) = some (some (.agg #[.slice none 0 0, .int .i64 0]), 2, 32) := by kernel_rfl
theorem leavesP_take (ps : List NP) (k : Nat) (h : k < ps.length) : leavesP (ps.take (k + 1)) = if (ps.getD k np0).x.kind = 1 then leavesP (ps.take k) ++ [toLP (ps.getD k np0)] else leavesP (ps.take k) := by
 unfold leavesP
 rw [List.take_succ_eq_append_getElem h, List.filter_append, List.map_append]
 have e : ps.getD k np0 = ps[k] := by simp [h]
 rw [e]
 by_cases hk : ps[k].x.kind = 1
 ·rw [if_pos hk, List.filter_cons_of_pos (by simpa using hk)]; rfl
 ·rw [if_neg hk, List.filter_cons_of_neg (by simpa using hk)]; simp
def LvInv (w : World) (n : Nat) (ps : List NP) (ov iv : Value) (wr : World) : Prop :=
 ∃ (k j : Nat) (B : Option Addr) (d : Nat), k ≤ n ∧ j ≤ k ∧ iv = .int .i64 k ∧ ov = .slice B j d ∧ Hid ((leavesP (ps.take k)).length = j) ∧ Hid (wr.ownsRow w.heap.size 34 2 (.slice B j d) j ((leavesP (ps.take k)).flatMap lfL)) ∧ Chg Nothing w wr
def LvAns (F : Nat → Prop) (ps : List NP) (w : World) (e : Ending) (w' : World) : Prop :=
 ∃ (B : Option Addr) (j d : Nat), e = .returned (.slice B j d) ∧ LRow (fun k => F k ∨ w.heap.size ≤ k) w' B j d (leavesP ps) ∧ w'.ownsRow w.heap.size 34 2 (.slice B j d) j ((leavesP ps).flatMap lfL) ∧ Chg Nothing w w'
theorem lv_end {F : Nat → Prop} {ps : List NP} {w wr : World} {A : Option Addr} {n c : Nat} (HH : NRow F w A n c ps) {B : Option Addr} {j d : Nat} (hl : (leavesP ps).length = j) (ho : wr.ownsRow w.heap.size 34 2 (.slice B j d) j ((leavesP ps).flatMap lfL)) (hc : Chg Nothing w wr) :
  LvAns F ps w (.returned (.slice B j d)) wr := by
 refine ⟨B, j, d, rfl, ⟨hl, (RowAt.of_own ho).mono (fun k _ hF => .inr hF.2), fun q hq => ?_⟩, ho, hc⟩
 unfold leavesP at hq
 obtain ⟨p, hp, rfl⟩ := List.mem_map.1 hq
 have hp' := (List.mem_filter.1 hp).1
 have := (HH.calm hc).els p hp'
 exact ⟨this.row.mono (fun k _ hF => .inl hF), this.len⟩
theorem leaves_any (F : Nat → Prop) (A : Option Addr) (n c : Nat) (ps : List NP) (w : World) (H : NRow F w A n c ps) (hn : n ≤ 1000000) :
  Calls Tryz.prog 42 #[.slice A n c] w (LvAns F ps w) := by
 have HH := hid H
 have hle := H.row.le
 have hmx := H.row.max
 have hlen := hid H.len
 clear H
 go_enter Tryz.func42, Tryz.ntmps42
 go_wp2_with fail
 go_loopw [3, 8] (fun ov iv wr => LvInv w n ps ov iv wr) (fun _ iv _ => n - (intOf iv).toNat)
 case atStart => exact ⟨0, 0, none, 0, Nat.zero_le _, Nat.le_refl _, rfl, rfl, hid rfl, hid (World.ownsRow_nil _ _ _ _), Chg.refl _ _⟩
 case round =>
  obtain ⟨k, j, B, d, hk, hj, rfl, rfl, hjl, hO, hchg⟩ := hrel
  rcases Nat.lt_or_ge k n with hkn | hkn
  ·obtain ⟨g, o, p, rfl, -, hgl, hp, -, -, c0, c1, c2, c3⟩ := (HH.out.calm hchg).four hkn
   have htk := hid (leavesP_take ps k (by rw [hlen.out]; exact hkn))
   rw [← hp] at htk
   replace hp := hid hp
   have hk0 : (0 : Int) ≤ (k : Int) := by omega
   have hkn' : (k : Int) < (n : Int) := by omega
   have hsz := hid hchg.size
   by_cases h1 : p.x.kind = 1
   ·have hb : (p.x.kind == 1) = true := beq_iff_eq.2 h1
    have htk2 := hid (show leavesP (ps.take (k + 1)) = leavesP (ps.take k) ++ [toLP p] from by rw [htk.out, if_pos h1])
    replace h1 := hid h1
    go_wp2_with (at_builtin; (refine append_cells (w := wr.alloc _) rfl _ _ 65 rfl w.heap.size 34 (.agg #[.slice none 0 0, .int .i64 0]) 2 32 Tryz.underlying65 infoLf rfl (by decide) B d j _ rfl (own_chg hO.out ((Chg.refl Nothing wr).alloc _) (fun _ _ h => h)) (lfL (toLP p)) (by rw [World.size_alloc]; rfl) rfl (lfL_one _) ?_ ?_ ?_ ?_))
    ·omega
    ·omega
    ·rw [World.size_alloc]; have := hsz.out; omega
    intro B' d' w6 hown6 hc6 hA
    have hown7 := hid hown6
    have hC7 := hid ((hchg.alloc (.cells #[.int .i64 p.x.kind, .int .i64 p.x.n, .slice p.A p.l p.c, .int .i64 p.x.K] 55)).then hc6 (fun k hk h => by have := own_of hO.out _ h; omega))
    clear hown6 hc6 hA hchg c0 c1 c2 c3
    go_wp2
    go_roundw
    case rel => exact ⟨k + 1, j + 1, B', d', hkn, by omega, by go_num, rfl, hid (by rw [htk2.out, List.length_append, hjl.out]; rfl), hid (by rw [htk2.out, List.flatMap_append]; simpa using hown7.out), hC7.out⟩
    case measure => simp [intOf]; omega
   ·have hb : (p.x.kind == 1) = false := beq_eq_false_iff_ne.2 h1
    have htk2 := hid (show leavesP (ps.take (k + 1)) = leavesP (ps.take k) from by rw [htk.out, if_neg h1])
    replace h1 := hid h1
    have hC7 := hid (hchg.alloc (.cells #[.int .i64 p.x.kind, .int .i64 p.x.n, .slice p.A p.l p.c, .int .i64 p.x.K] 55))
    have hO7 := hid (own_chg hO.out ((Chg.refl Nothing wr).alloc (.cells #[.int .i64 p.x.kind, .int .i64 p.x.n, .slice p.A p.l p.c, .int .i64 p.x.K] 55)) (fun _ _ h => h))
    go_wp2
    go_roundw
    case rel => exact ⟨k + 1, j, B, d, hkn, by omega, by go_num, rfl, hid (by rw [htk2.out, hjl.out]), hid (by rw [htk2.out]; exact hO7.out), hC7.out⟩
    case measure => simp [intOf]; omega
  ·have hd : decide ((k : Int) < (n : Int)) = false := decide_eq_false (by omega)
   have hall := hid (show ps.take k = ps from List.take_of_length_le (by rw [hlen.out]; exact hkn))
   rw [hall.out] at hO hjl
   have hfin := hid (lv_end HH.out hjl.out hO.out hchg)
   go_wp2
   go_ret
   exact hfin.out
theorem refLeaves_any (F : Nat → Prop) (A : Option Addr) (n c : Nat) (ps : List NP) (w : World) (H : NRow F w A n c ps) (hn : n ≤ 1000000) :
  Calls Tryz.prog 52 #[.slice A n c] w (LvAns F ps w) := by
 have HH := hid H
 have hle := H.row.le
 have hmx := H.row.max
 have hlen := hid H.len
 clear H
 go_enter Tryz.func52, Tryz.ntmps52
 go_wp2_with fail
 go_loopw [3, 4] (fun ov iv wr => LvInv w n ps ov iv wr) (fun _ iv _ => n - (intOf iv).toNat)
 case atStart => exact ⟨0, 0, none, 0, Nat.zero_le _, Nat.le_refl _, rfl, rfl, hid rfl, hid (World.ownsRow_nil _ _ _ _), Chg.refl _ _⟩
 case round =>
  obtain ⟨k, j, B, d, hk, hj, rfl, rfl, hjl, hO, hchg⟩ := hrel
  rcases Nat.lt_or_ge k n with hkn | hkn
  ·obtain ⟨g, o, p, rfl, -, hgl, hp, -, -, c0, c1, c2, c3⟩ := (HH.out.calm hchg).four hkn
   have htk := hid (leavesP_take ps k (by rw [hlen.out]; exact hkn))
   rw [← hp] at htk
   replace hp := hid hp
   have hk0 : (0 : Int) ≤ (k : Int) := by omega
   have hkn' : (k : Int) < (n : Int) := by omega
   have hsz := hid hchg.size
   by_cases h1 : p.x.kind = 1
   ·have hb : (p.x.kind == 1) = true := beq_iff_eq.2 h1
    have htk2 := hid (show leavesP (ps.take (k + 1)) = leavesP (ps.take k) ++ [toLP p] from by rw [htk.out, if_pos h1])
    replace h1 := hid h1
    go_wp2_with (at_builtin; (refine append_cells (w := wr) rfl _ _ 65 rfl w.heap.size 34 (.agg #[.slice none 0 0, .int .i64 0]) 2 32 Tryz.underlying65 infoLf rfl (by decide) B d j _ rfl hO.out (lfL (toLP p)) rfl rfl (lfL_one _) ?_ ?_ ?_ ?_))
    ·omega
    ·omega
    ·have := hsz.out; omega
    intro B' d' w6 hown6 hc6 hA
    have hown7 := hid hown6
    have hC7 := hid (hchg.then hc6 (fun k hk h => by have := own_of hO.out _ h; omega))
    clear hown6 hc6 hA hchg c0 c1 c2 c3
    go_wp2
    go_roundw
    case rel => exact ⟨k + 1, j + 1, B', d', hkn, by omega, by go_num, rfl, hid (by rw [htk2.out, List.length_append, hjl.out]; rfl), hid (by rw [htk2.out, List.flatMap_append]; simpa using hown7.out), hC7.out⟩
    case measure => simp [intOf]; omega
   ·have hb : (p.x.kind == 1) = false := beq_eq_false_iff_ne.2 h1
    have htk2 := hid (show leavesP (ps.take (k + 1)) = leavesP (ps.take k) from by rw [htk.out, if_neg h1])
    replace h1 := hid h1
    go_wp2
    go_roundw
    case rel => exact ⟨k + 1, j, B, d, hkn, by omega, by go_num, rfl, hid (by rw [htk2.out, hjl.out]), hid (by rw [htk2.out]; exact hO.out), hchg⟩
    case measure => simp [intOf]; omega
  ·have hd : decide ((k : Int) < (n : Int)) = false := decide_eq_false (by omega)
   have hall := hid (show ps.take k = ps from List.take_of_length_le (by rw [hlen.out]; exact hkn))
   rw [hall.out] at hO hjl
   have hfin := hid (lv_end HH.out hjl.out hO.out hchg)
   go_wp2
   go_ret
   exact hfin.out
def longL (qs : List LP) : Nat := qs.foldl (fun m q => max m q.p.length) 0
theorem longL_take (qs : List LP) (k : Nat) (h : k < qs.length) : longL (qs.take (k + 1)) = max (longL (qs.take k)) (qs.getD k lp0).p.length := by
 unfold longL
 rw [List.take_succ_eq_append_getElem h, List.foldl_append]
 simp [h]
def LgInv (w : World) (n : Nat) (qs : List LP) (ov iv : Value) (wr : World) : Prop := ∃ (k m : Nat), k ≤ n ∧ iv = .int .i64 k ∧ ov = .int .i64 m ∧ Hid (m = longL (qs.take k)) ∧ m ≤ 9223372036854775807 ∧ Chg Nothing w wr
theorem longest_any (F : Nat → Prop) (A : Option Addr) (n c : Nat) (ps : List NP) (w : World) (H : NRow F w A n c ps) (hn : n ≤ 1000000) :
  Calls Tryz.prog 29 #[.slice A n c] w fun e w' => e = .returned (.int .i64 (longL (leavesP ps) : Nat)) ∧ Chg Nothing w w' := by
 have HH := hid H
 clear H
 go_enter Tryz.func29, Tryz.ntmps29
 go_wp2_with fail
 refine (leaves_any F A n c ps _ HH.out hn).mono ?_
 rintro e w1 ⟨B, j, d, rfl, hL, -, hc1⟩
 have hLL := hid hL
 have hle := hL.row.le
 have hmx := hL.row.max
 have hlen := hid hL.len
 have hC1 := hid hc1
 clear hL hc1
 go_wp2_with fail
 go_loopw [3, 9] (fun ov iv wr => LgInv w1 j (leavesP ps) ov iv wr) (fun _ iv _ => j - (intOf iv).toNat)
 case atStart => exact ⟨0, 0, Nat.zero_le _, rfl, rfl, hid rfl, by decide, Chg.refl _ _⟩
 case round =>
  obtain ⟨k, m, hk, rfl, rfl, hm, hm63, hchg⟩ := hrel
  rcases Nat.lt_or_ge k j with hkn | hkn
  ·obtain ⟨g, o, q, rfl, -, hgl, hq, -, hqr, c0, c1⟩ := (hLL.out.calm hchg).two hkn
   have htk := hid (longL_take (leavesP ps) k (by rw [hlen.out]; exact hkn))
   rw [← hq] at htk
   have hql := hid hqr.len
   have hq63 : q.l ≤ 9223372036854775807 := by have h1 := hqr.row.le; have h2 := hqr.row.max; omega
   replace hq := hid hq
   clear hqr
   have hk0 : (0 : Int) ≤ (k : Int) := by omega
   have hkn' : (k : Int) < (j : Int) := by omega
   have hC7 := hid (hchg.alloc (.cells #[.slice q.A q.l q.c, .int .i64 q.K] 34))
   rcases Nat.lt_or_ge m q.l with hlt | hge
   ·have hmx2 : max (m : Int) (q.l : Int) = (q.l : Int) := by omega
    have hnew := hid (show q.l = longL ((leavesP ps).take (k + 1)) from by rw [htk.out, ← hm.out, hql.out]; omega)
    go_wp2
    go_roundw
    case rel => exact ⟨k + 1, q.l, hkn, by go_num, by first | rfl | exact congrArg (Value.int .i64) hmx2, hnew, hq63, hC7.out⟩
    case measure => simp [intOf]; omega
   ·have hmx2 : max (m : Int) (q.l : Int) = (m : Int) := by omega
    have hnew := hid (show m = longL ((leavesP ps).take (k + 1)) from by rw [htk.out, ← hm.out, hql.out]; omega)
    go_wp2
    go_roundw
    case rel => exact ⟨k + 1, m, hkn, by go_num, by first | rfl | exact congrArg (Value.int .i64) hmx2, hnew, hm63, hC7.out⟩
    case measure => simp [intOf]; omega
  ·have hd : decide ((k : Int) < (j : Int)) = false := decide_eq_false (by omega)
   have hall := hid (show m = longL (leavesP ps) from by have := hm.out; rwa [List.take_of_length_le (by rw [hlen.out]; exact hkn)] at this)
   go_wp2
   go_ret
   exact ⟨by rw [← hall.out]; rfl, hC1.out.trans hchg⟩
theorem longL_snoc (qs : List LP) (q : LP) : longL (qs ++ [q]) = max (longL qs) q.p.length := by unfold longL; rw [List.foldl_append]; rfl
theorem refLongest_any (F : Nat → Prop) (A : Option Addr) (n c : Nat) (ps : List NP) (w : World) (H : NRow F w A n c ps) (hn : n ≤ 1000000) :
  Calls Tryz.prog 31 #[.slice A n c] w fun e w' => e = .returned (.int .i64 (longL (leavesP ps) : Nat)) ∧ Chg Nothing w w' := by
 have HH := hid H
 have hle := H.row.le
 have hmx := H.row.max
 have hlen := hid H.len
 clear H
 go_enter Tryz.func31, Tryz.ntmps31
 go_wp2_with fail
 go_loopw [3, 4] (fun ov iv wr => ∃ (k m : Nat), k ≤ n ∧ iv = .int .i64 k ∧ ov = .int .i64 m ∧ Hid (m = longL (leavesP (ps.take k))) ∧ m ≤ 9223372036854775807 ∧ Chg Nothing w wr) (fun _ iv _ => n - (intOf iv).toNat)
 case atStart => exact ⟨0, 0, Nat.zero_le _, rfl, rfl, hid rfl, by decide, Chg.refl _ _⟩
 case round =>
  obtain ⟨k, m, hk, rfl, rfl, hm, hm63, hchg⟩ := hrel
  rcases Nat.lt_or_ge k n with hkn | hkn
  ·obtain ⟨g, o, p, rfl, -, hgl, hp, -, hpr, c0, c1, c2, c3⟩ := (HH.out.calm hchg).four hkn
   have htk := hid (leavesP_take ps k (by rw [hlen.out]; exact hkn))
   rw [← hp] at htk
   have hql := hid hpr.len
   have hq63 : p.l ≤ 9223372036854775807 := by have h1 := hpr.row.le; have h2 := hpr.row.max; omega
   replace hp := hid hp
   clear hpr
   have hk0 : (0 : Int) ≤ (k : Int) := by omega
   have hkn' : (k : Int) < (n : Int) := by omega
   by_cases h1 : p.x.kind = 1
   ·have hb : (p.x.kind == 1) = true := beq_iff_eq.2 h1
    have htk2 := hid (show longL (leavesP (ps.take (k + 1))) = max (longL (leavesP (ps.take k))) p.l from by rw [htk.out, if_pos h1, longL_snoc, ← hql.out]; rfl)
    replace h1 := hid h1
    rcases Nat.lt_or_ge m p.l with hlt | hge
    ·have hlt' : (m : Int) < (p.l : Int) := by omega
     have hnew := hid (show p.l = longL (leavesP (ps.take (k + 1))) from by rw [htk2.out, ← hm.out]; omega)
     go_wp2_with fail
     try go_quiet (fail)
     go_wp2
     go_roundw
     case rel => exact ⟨k + 1, p.l, hkn, by go_num, rfl, hnew, hq63, hchg⟩
     case measure => simp [intOf]; omega
    ·have hlt' : ¬ (m : Int) < (p.l : Int) := by omega
     have hnew := hid (show m = longL (leavesP (ps.take (k + 1))) from by rw [htk2.out, ← hm.out]; omega)
     go_wp2_with fail
     try go_quiet (fail)
     go_wp2
     go_roundw
     case rel => exact ⟨k + 1, m, hkn, by go_num, rfl, hnew, hm63, hchg⟩
     case measure => simp [intOf]; omega
   ·have hb : (p.x.kind == 1) = false := beq_eq_false_iff_ne.2 h1
    have hnew := hid (show m = longL (leavesP (ps.take (k + 1))) from by rw [htk.out, if_neg h1]; exact hm.out)
    replace h1 := hid h1
    go_wp2_with fail
    try go_quiet (fail)
    go_wp2
    go_roundw
    case rel => exact ⟨k + 1, m, hkn, by go_num, rfl, hnew, hm63, hchg⟩
    case measure => simp [intOf]; omega
  ·have hd : decide ((k : Int) < (n : Int)) = false := decide_eq_false (by omega)
   have hall := hid (show m = longL (leavesP ps) from by have := hm.out; rwa [List.take_of_length_le (by rw [hlen.out]; exact hkn)] at this)
   go_wp2
   go_ret
   exact ⟨by rw [← hall.out]; rfl, hchg⟩
end Go.Proofs.YtoelilejohfglaaGreat
