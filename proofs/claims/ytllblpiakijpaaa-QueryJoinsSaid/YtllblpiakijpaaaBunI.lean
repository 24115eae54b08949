/- Joined texts: QryA QryB QryC QryD QryE QryF QryG QryH. -/
import Derived.Test.YtllblpiakijpaaaBunH
import Derived.Test.YtllblpiakijpaaaBunF
import Derived.Test.YtllblpiakijpaaaBunA
import Derived.Test.YtllblpiakijpaaaBunE
import Derived.Test.YtllblpiakijpaaaRefI
import Derived.Test.YtllblpiakijpaaaBunB
/- Layer 14: rows of nodes; arity, size, zero, node. -/
namespace Go.Proofs.Ytllblpiakijpaaa
open Go.RowKit
set_option linter.unusedVariables false
attribute [local go_sem ↓] Go.wp_at_zero Go.wp_at_succ
/-! ### Slices of rows of several cells -/
/-- Four cells of an element of a row. -/
theorem rowAt_four {α : Type} {f : α → List Value} {d : α} {F : Nat → Prop} {w : World} {A : Option Addr} {n c : Nat} {xs : List α} (h : RowAt 4 F w A n c (xs.flatMap f)) (hf : ∀ x, (f x).length = 4) (hl : xs.length = n) {k : Nat} (hk : k < n) :
    ∃ g o, A = some ⟨g, o, none⟩ ∧ F g ∧ g < w.heap.size ∧ w.cell? ⟨g, o + k * 4, none⟩ = some ((f (xs.getD k d)).getD 0 undef) ∧ w.cell? ⟨g, o + k * 4 + 1, none⟩ = some ((f (xs.getD k d)).getD 1 undef) ∧ w.cell? ⟨g, o + k * 4 + 2, none⟩ = some ((f (xs.getD k d)).getD 2 undef) ∧ w.cell? ⟨g, o + k * 4 + 3, none⟩ = some ((f (xs.getD k d)).getD 3 undef) := by
  obtain ⟨g, o, e, hF, hlt, hc⟩ := h.cell hk (by decide)
  have c0 := hc 0 (by decide)
  have c1 := hc 1 (by decide)
  have c2 := hc 2 (by decide)
  have c3 := hc 3 (by decide)
  rw [flat_getD f 4 hf d xs k _ (by omega) (by decide)] at c0 c1 c2 c3
  exact ⟨g, o, e, hF, hlt, c0, c1, c2, c3⟩
/-- A piece of a row. -/
theorem rowAt_piece {sz : Nat} {F : Nat → Prop} {w : World} {A A1 : Option Addr} {n c m d : Nat} {vs us ws : List Value} (h : RowAt sz F w A n c (vs ++ us ++ ws)) {k : Nat} (hk : vs.length = k * sz) (hm : us.length = m * sz) (hkn : k + m ≤ n) (hd : m ≤ d) (hdc : d ≤ c) (hz : A1 = none → d = 0)
    (hA : 0 < m → ∀ g o, A = some ⟨g, o, none⟩ → A1 = some ⟨g, o + k * sz, none⟩) : RowAt sz F w A1 m d us := by
  have hmx := h.max
  refine ⟨hz, hd, by omega, hm, fun h0 => ?_⟩
  obtain ⟨g, o, e, hF, hlt, hc⟩ := h.cells (by omega)
  refine ⟨g, o + k * sz, hA h0 g o e, hF, hlt, fun j hj => ?_⟩
  have hlt2 : k * sz + j < n * sz := by
    have h1 : (k + m) * sz ≤ n * sz := Nat.mul_le_mul_right sz hkn
    rw [Nat.add_mul] at h1; omega
  have := hc (k * sz + j) hlt2
  rw [← Nat.add_assoc] at this
  rw [this]
  congr 1
  simp only [List.getD_eq_getElem?_getD]
  rw [List.append_assoc, List.getElem?_append_right (by omega), hk, Nat.add_sub_cancel_left, List.getElem?_append_left (by omega)]
/-- Where a piece of a row begins. -/
def pieceA (A : Option Addr) (lo c sz : Nat) : Option Addr := if c = lo then A else A.map (·.add (lo * sz))
theorem rowAt_cut {sz : Nat} {F : Nat → Prop} {w : World} {A : Option Addr} {n c m : Nat} {vs us ws : List Value} (h : RowAt sz F w A n c (vs ++ us ++ ws)) {k : Nat} (hk : vs.length = k * sz) (hm : us.length = m * sz) (hkn : k + m ≤ n) : RowAt sz F w (pieceA A k c sz) m (c - k) us := by
  have hle := h.le
  refine rowAt_piece h hk hm hkn (by omega) (by omega) ?_ ?_
  · intro e
    unfold pieceA at e
    by_cases hc : c = k
    · omega
    · rw [if_neg hc] at e
      cases A with
      | none => have := h.nil rfl; omega
      | some a => simp at e
  · intro h0 g o e
    unfold pieceA
    rw [if_neg (by omega), e]
    simp [add_plain]
section
variable {P : Program} {t : TypeId} {sz : Nat}
theorem run_from (ht : P.underlying t = some (.slice (P.elem t))) (hs : ∀ w, (sizeOf (P.elem t)).run P w = .ok sz w) (A : Option Addr) (n c : Nat) (z : Int) (lo : Nat) (hz : z = lo) (h1 : lo ≤ n) :
    ∀ W, (Instr.slice t (.slice A n c) (some (.int .i64 z)) none none).run P W = .ok (.slice (pieceA A lo c sz) (n - lo) (c - lo)) W := by
  intro W
  subst hz
  rw [run_slice_l (w := W) t _ n c ht .i64 (lo : Int) (by omega) (by omega), hs]
  simp [sliced, pieceA, Result.andThen]
theorem run_between (ht : P.underlying t = some (.slice (P.elem t))) (hs : ∀ w, (sizeOf (P.elem t)).run P w = .ok sz w) (A : Option Addr) (n c : Nat) (z y : Int) (lo hi : Nat) (hz : z = lo) (hy : y = hi) (h1 : lo ≤ hi) (h2 : hi ≤ c) :
    ∀ W, (Instr.slice t (.slice A n c) (some (.int .i64 z)) (some (.int .i64 y)) none).run P W = .ok (.slice (pieceA A lo c sz) (hi - lo) (c - lo)) W := by
  intro W
  subst hz hy
  rw [run_slice_lh (w := W) t _ n c ht .i64 .i64 (lo : Int) (hi : Int) (by omega) (by omega) (by omega), hs]
  simp [sliced, pieceA, Result.andThen]
theorem run_upto (ht : P.underlying t = some (.slice (P.elem t))) (hs : ∀ w, (sizeOf (P.elem t)).run P w = .ok sz w) (A : Option Addr) (n c : Nat) (y : Int) (hi : Nat) (hy : y = hi) (h2 : hi ≤ c) :
    ∀ W, (Instr.slice t (.slice A n c) none (some (.int .i64 y)) none).run P W = .ok (.slice (pieceA A 0 c sz) hi c) W := by
  intro W
  subst hy
  rw [run_slice_h (w := W) t _ n c ht .i64 (hi : Int) (by omega) (by omega), hs]
  simp [sliced, pieceA, Result.andThen]
end
/-! ### Rows of nodes -/
/-- A node, and where its elements lie. -/
structure NP where
  x : Nd
  A : Option Addr
  l : Nat
  c : Nat
def ndL (p : NP) : List Value := [.int .i64 p.x.kind, .int .i64 p.x.n, .slice p.A p.l p.c, .int .i64 p.x.K]
theorem ndL_len (p : NP) : (ndL p).length = 4 := rfl
theorem ndL_one (p : NP) : ∀ u ∈ ndL p, u.oneCell' = true := by intro u hu; unfold ndL at hu; simp at hu; rcases hu with rfl | rfl | rfl | rfl <;> rfl
def np0 : NP := ⟨⟨0, 0, [], 0⟩, none, 0, 0⟩
structure NRead (F : Nat → Prop) (w : World) (p : NP) : Prop where
  row : RowAt 4 F w p.A p.l p.c (p.x.p.flatMap clsL)
  len : p.x.p.length = p.l
structure NRow (F : Nat → Prop) (w : World) (A : Option Addr) (n c : Nat) (ps : List NP) : Prop where
  len : ps.length = n
  row : RowAt 4 F w A n c (ps.flatMap ndL)
  els : ∀ p ∈ ps, NRead F w p
theorem NRead.chg {F S : Nat → Prop} {w w' : World} {p : NP} (h : NRead F w p) (hc : Chg S w w') (hd : ∀ k, k < w.heap.size → F k → ¬ S k) : NRead F w' p := ⟨h.row.chg hc hd, h.len⟩
theorem NRow.chg {F S : Nat → Prop} {w w' : World} {A : Option Addr} {n c : Nat} {ps : List NP} (h : NRow F w A n c ps) (hc : Chg S w w') (hd : ∀ k, k < w.heap.size → F k → ¬ S k) : NRow F w' A n c ps :=
  ⟨h.len, h.row.chg hc hd, fun p hp => (h.els p hp).chg hc hd⟩
theorem NRow.calm {F : Nat → Prop} {w w' : World} {A : Option Addr} {n c : Nat} {ps : List NP} (h : NRow F w A n c ps) (hc : Chg Nothing w w') : NRow F w' A n c ps := h.chg hc (fun _ _ _ h => h)
theorem NRow.top {F : Nat → Prop} {w : World} {A : Option Addr} {n c : Nat} {ps : List NP} (h : NRow F w A n c ps) : NRow (fun _ => True) w A n c ps :=
  ⟨h.len, h.row.mono (fun _ _ _ => trivial), fun p hp => ⟨(h.els p hp).row.mono (fun _ _ _ => trivial), (h.els p hp).len⟩⟩
theorem NRow.nil (F : Nat → Prop) (w : World) : NRow F w none 0 0 [] := ⟨rfl, RowAt.none _ _ _, fun p h => by simp at h⟩
/-- A piece of a row of nodes. -/
theorem NRow.cut {F : Nat → Prop} {w : World} {A : Option Addr} {n c : Nat} {ps qs rs : List NP} (h : NRow F w A n c (ps ++ qs ++ rs)) : NRow F w (pieceA A ps.length c 4) qs.length (c - ps.length) qs := by
  have hl := h.len
  simp only [List.length_append] at hl
  refine ⟨rfl, ?_, fun p hp => h.els p (by simp [hp])⟩
  refine rowAt_cut (n := n) (m := qs.length) (vs := ps.flatMap ndL) (ws := rs.flatMap ndL) ?_ (flat_len ndL 4 ndL_len ps) (flat_len ndL 4 ndL_len qs) (by omega)
  have := h.row
  rwa [List.flatMap_append, List.flatMap_append] at this
theorem NRow.four {F : Nat → Prop} {w : World} {A : Option Addr} {n c : Nat} {ps : List NP} (h : NRow F w A n c ps) {k : Nat} (hk : k < n) :
    ∃ g o p, A = some ⟨g, o, none⟩ ∧ F g ∧ g < w.heap.size ∧ p = ps.getD k np0 ∧ p ∈ ps ∧ NRead F w p ∧ w.cell? ⟨g, o + k * 4, none⟩ = some (.int .i64 p.x.kind) ∧ w.cell? ⟨g, o + k * 4 + 1, none⟩ = some (.int .i64 p.x.n) ∧ w.cell? ⟨g, o + k * 4 + 2, none⟩ = some (.slice p.A p.l p.c) ∧ w.cell? ⟨g, o + k * 4 + 3, none⟩ = some (.int .i64 p.x.K) := by
  obtain ⟨g, o, e, hF, hlt, c0, c1, c2, c3⟩ := rowAt_four h.row (d := np0) ndL_len h.len hk
  have hm : ps.getD k np0 ∈ ps := by
    have : k < ps.length := by rw [h.len]; exact hk
    simp [this]
  exact ⟨g, o, ps.getD k np0, e, hF, hlt, rfl, hm, h.els _ hm, c0, c1, c2, c3⟩
theorem elemNd : Try.prog.underlying 23 = some (.slice (Try.prog.elem 23)) := by kernel_rfl
theorem sizeNd : ∀ w, (sizeOf (Try.prog.elem 23)).run Try.prog w = .ok 4 w := fun w => by kernel_rfl
/-! ### arity, size, zero, node -/
set_option maxHeartbeats 4000000 in
theorem arity_any (k n K : Int) (A : Option Addr) (l c : Nat) (w : World) :
    Calls Try.prog 59 #[.agg #[.int .i64 k, .int .i64 n, .slice A l c, .int .i64 K]] w fun e w' => e = .returned (.int .i64 (arS k)) ∧ Chg Nothing w w' := by
  have hX := Blk.new w #[.int .i64 k, .int .i64 n, .slice A l c, .int .i64 K] 40
  have x0 := hX.cell 0 rfl
  clear hX
  have hcs : k = 1 ∨ (k ≠ 1 ∧ k = 4) ∨ (k ≠ 1 ∧ k ≠ 4 ∧ k = 5) ∨ (k ≠ 1 ∧ k ≠ 4 ∧ k ≠ 5 ∧ k = 2) ∨ (k ≠ 1 ∧ k ≠ 4 ∧ k ≠ 5 ∧ k ≠ 2 ∧ k = 3) ∨ (k ≠ 1 ∧ k ≠ 4 ∧ k ≠ 5 ∧ k ≠ 2 ∧ k ≠ 3) := by omega
  rcases hcs with rfl | ⟨h1, rfl⟩ | ⟨h1, h4, rfl⟩ | ⟨h1, h4, h5, rfl⟩ | ⟨h1, h4, h5, h2, rfl⟩ | ⟨h1, h4, h5, h2, h3⟩
  · go_enter Try.func59, Try.ntmps59
    go_wp2
    go_ret
    exact ⟨rfl, (Chg.refl _ _).alloc _⟩
  · go_enter Try.func59, Try.ntmps59
    go_wp2
    go_ret
    exact ⟨rfl, (Chg.refl _ _).alloc _⟩
  · go_enter Try.func59, Try.ntmps59
    go_wp2
    go_ret
    exact ⟨rfl, (Chg.refl _ _).alloc _⟩
  · go_enter Try.func59, Try.ntmps59
    go_wp2
    go_ret
    exact ⟨rfl, (Chg.refl _ _).alloc _⟩
  · go_enter Try.func59, Try.ntmps59
    go_wp2
    go_ret
    exact ⟨rfl, (Chg.refl _ _).alloc _⟩
  · have e1 : (k == 1) = false := beq_eq_false_iff_ne.2 h1
    have e4 : (k == 4) = false := beq_eq_false_iff_ne.2 h4
    have e5 : (k == 5) = false := beq_eq_false_iff_ne.2 h5
    have e2 : (k == 2) = false := beq_eq_false_iff_ne.2 h2
    have e3 : (k == 3) = false := beq_eq_false_iff_ne.2 h3
    have hE := hid (show arS k = -1 from by unfold arS; rw [if_neg h1, if_neg (by omega), if_neg (by omega)])
    clear h1 h2 h3 h4 h5
    rw [hE.out]
    go_enter Try.func59, Try.ntmps59
    go_wp2
    go_ret
    exact ⟨rfl, (Chg.refl _ _).alloc _⟩
def SzInv (w : World) (n : Nat) (L : List Nd) (ov iv : Value) (wr : World) : Prop := ∃ (k : Nat) (op : Int), k ≤ n ∧ iv = .int .i64 k ∧ ov = .int .i64 op ∧ 1 ≤ op ∧ op ≤ k + 1 ∧ Hid (sizeGo L 1 0 = sizeGo (L.drop k) op k) ∧ Chg Nothing w wr
theorem arS_le (k : Int) : -1 ≤ arS k ∧ arS k ≤ 2 := by rcases arS_cases k with h | h | h | h <;> omega
theorem drop_nd {ps : List NP} {k : Nat} (h : k < ps.length) : (ps.map NP.x).drop k = (ps.getD k np0).x :: (ps.map NP.x).drop (k + 1) := by
  rw [List.drop_eq_getElem_cons (by simpa using h)]
  simp [h]
set_option maxHeartbeats 8000000 in
set_option maxRecDepth 100000 in
theorem size_any (F : Nat → Prop) (A : Option Addr) (n c : Nat) (ps : List NP) (w : World) (H : NRow F w A n c ps) (hn : n ≤ 1000000) :
    Calls Try.prog 37 #[.slice A n c] w fun e w' => e = .returned (.int .i64 (sizeN (ps.map NP.x) : Nat)) ∧ Chg Nothing w w' := by
  have HH := hid H
  have hle := H.row.le
  have hmx := H.row.max
  have hlen := hid H.len
  clear H
  go_enter Try.func37, Try.ntmps37
  go_wp2
  go_step3
  go_wp2
  go_step3
  go_wp2
  go_loopw [3, 9] (fun ov iv wr => SzInv w n (ps.map NP.x) ov iv wr) (fun _ iv _ => n - (intOf iv).toNat)
  case atStart => exact ⟨0, 1, Nat.zero_le _, rfl, rfl, by omega, by omega, hid rfl, Chg.refl _ _⟩
  case round =>
    obtain ⟨k, op, hk, rfl, rfl, ho1, ho2, hgo, hchg⟩ := hrel
    rcases Nat.lt_or_ge k n with hkn | hkn
    · obtain ⟨g, o, p, rfl, -, hgl, hp, -, -, c0, c1, c2, c3⟩ := (HH.out.calm hchg).four hkn
      have hst := hgo.out
      rw [drop_nd (by rw [hlen.out]; exact hkn), ← hp] at hst
      have hst' := hid hst
      clear hst
      replace hp := hid hp
      obtain ⟨⟨kd, nn, xs, K⟩, A1, l1, c1'⟩ := p
      simp only at c0 c1 c2 c3
      have ha := arS_le kd
      have hk0 : (0 : Int) ≤ (k : Int) := by omega
      have hkn' : (k : Int) < (n : Int) := by omega
      have hcl := hid (fun w => arity_any kd nn K A1 l1 c1' w)
      simp only [sizeGo] at hst'
      obtain ⟨a, hae⟩ : ∃ a, a = arS kd := ⟨_, rfl⟩
      rw [← hae] at ha hcl hst'
      replace hae := hid hae
      by_cases hneg : a < 0
      · have hz := hid (show sizeN (ps.map NP.x) = 0 from by unfold sizeN; rw [hst'.out, if_pos hneg])
        go_wp2_with fail
        refine (hcl.out _).mono ?_
        rintro e w1 ⟨rfl, hc1⟩
        have hC := hid ((hchg.alloc (.cells #[.int .i64 kd, .int .i64 nn, .slice A1 l1 c1', .int .i64 K] 40)).trans hc1)
        clear hc1 hchg c0 c1 c2 c3
        go_wp2
        try rw [Exit.noGoto_ret]
        go_ret
        exact ⟨by rw [hz.out]; rfl, hC.out⟩
      · by_cases h0 : op + (a - 1) = 0
        · have hz := hid (show sizeN (ps.map NP.x) = k + 1 from by unfold sizeN; rw [hst'.out, if_neg hneg, if_pos h0])
          have e0 : ((op + (a - 1)) == 0) = true := beq_iff_eq.2 h0
          replace h0 := hid h0
          go_wp2_with fail
          refine (hcl.out _).mono ?_
          rintro e w1 ⟨rfl, hc1⟩
          have hC := hid ((hchg.alloc (.cells #[.int .i64 kd, .int .i64 nn, .slice A1 l1 c1', .int .i64 K] 40)).trans hc1)
          clear hc1 hchg c0 c1 c2 c3
          go_wp2
          try rw [Exit.noGoto_ret]
          go_ret
          exact ⟨by rw [hz.out]; rfl, hC.out⟩
        · have hz := hid (show sizeGo (ps.map NP.x) 1 0 = sizeGo ((ps.map NP.x).drop (k + 1)) (op + (a - 1)) (k + 1) from by rw [hst'.out, if_neg hneg, if_neg h0])
          have e0 : ((op + (a - 1)) == 0) = false := beq_eq_false_iff_ne.2 h0
          have h1 : 1 ≤ op + (a - 1) := by omega
          replace h0 := hid h0
          go_wp2_with fail
          refine (hcl.out _).mono ?_
          rintro e w1 ⟨rfl, hc1⟩
          have hC := hid ((hchg.alloc (.cells #[.int .i64 kd, .int .i64 nn, .slice A1 l1 c1', .int .i64 K] 40)).trans hc1)
          clear hc1 hchg c0 c1 c2 c3
          go_wp2
          go_roundw
          case rel => exact ⟨k + 1, op + (a - 1), hkn, by go_num, rfl, h1, by omega, hz, hC.out⟩
          case measure => simp [intOf]; omega
    · have hd : decide ((k : Int) < (n : Int)) = false := decide_eq_false (by omega)
      have hz := hid (show sizeN (ps.map NP.x) = 0 from by unfold sizeN; rw [hgo.out, List.drop_eq_nil_of_le (by rw [List.length_map, hlen.out]; exact hkn)]; rfl)
      go_wp2
      try rw [Exit.noGoto_ret]
      go_ret
      exact ⟨by rw [hz.out]; rfl, hchg⟩
theorem zero_any (K : Int) (A : Option Addr) (l c : Nat) (w : World) :
    Calls Try.prog 57 #[.agg #[.slice A l c, .int .i64 K]] w fun e w' => e = .returned (.bool (decide (l = 0) && decide (K = 0))) ∧ Chg Nothing w w' := by
  have hX := Blk.new w #[.slice A l c, .int .i64 K] 36
  have x0 := hX.cell 0 rfl
  have x1 := hX.cell 1 rfl
  clear hX
  by_cases hl : l = 0
  · subst hl
    have e0 : decide ((0 : Nat) = 0) = true := rfl
    by_cases hK : K = 0
    · subst hK
      go_enter Try.func57, Try.ntmps57
      go_wp2
      go_ret
      exact ⟨rfl, (Chg.refl _ _).alloc _⟩
    · have e1 : (K == 0) = false := beq_eq_false_iff_ne.2 hK
      have e2 := hid (show decide (K = 0) = false from decide_eq_false hK)
      rw [e2.out]
      replace hK := hid hK
      go_enter Try.func57, Try.ntmps57
      go_wp2
      go_ret
      exact ⟨rfl, (Chg.refl _ _).alloc _⟩
  · have e1 : ((l : Int) == 0) = false := beq_eq_false_iff_ne.2 (by omega)
    have e2 := hid (show decide (l = 0) = false from decide_eq_false hl)
    rw [e2.out, Bool.false_and]
    replace hl := hid hl
    go_enter Try.func57, Try.ntmps57
    go_wp2
    go_ret
    exact ⟨rfl, (Chg.refl _ _).alloc _⟩
set_option maxHeartbeats 8000000 in
theorem node_any (F : Nat → Prop) (kd n K : Int) (A : Option Addr) (l c : Nat) (xs : List Cls) (w : World) (H : ClsRow F w A l c xs) (hl : xs.length = l) :
    Calls Try.prog 35 #[.agg #[.int .i64 kd, .int .i64 n, .slice A l c, .int .i64 K]] w fun e w' => e = .returned (.bool (nodeD ⟨kd, n, xs, K⟩)) ∧ Chg Nothing w w' := by
  have hX := Blk.new w #[.int .i64 kd, .int .i64 n, .slice A l c, .int .i64 K] 40
  have x0 := hX.cell 0 rfl
  have x1 := hX.cell 1 rfl
  have x2 := hX.cell 2 rfl
  have x3 := hX.cell 3 rfl
  clear hX
  have hlh := hid hl
  have H1 := hid (fun w' (hc : Chg Nothing w w') => H.chg hc (fun _ _ _ h => h))
  clear H hl
  have hcs : (kd ≠ 5 ∧ n ≠ 0) ∨ (¬ (kd ≠ 5 ∧ n ≠ 0) ∧ (n < 0 ∨ (¬ n < 0 ∧ 1000000 < n) ∨ (¬ n < 0 ∧ ¬ 1000000 < n))) := by omega
  rcases hcs with ⟨h5, hn⟩ | ⟨hno, hcs⟩
  · have e5 : (kd == 5) = false := beq_eq_false_iff_ne.2 h5
    have en : (n != 0) = true := by rw [bne_iff_ne]; exact hn
    have hE := hid (show nodeD ⟨kd, n, xs, K⟩ = false from by unfold nodeD; exact if_pos ⟨h5, hn⟩)
    rw [hE.out]
    clear h5 hn
    by_cases k1 : kd = 1
    all_goals
      go_enter Try.func35, Try.ntmps35
      go_wp2_with fail
      go_quiet (fail)
      go_wp2
      go_ret
      exact ⟨rfl, ((Chg.refl _ _).alloc _).drewN _⟩
  · have hpre : (kd = 5) ∨ (kd ≠ 5 ∧ n = 0) := by omega
    rcases hcs with h | ⟨h, h'⟩ | ⟨h, h'⟩
    · have hE := hid (show nodeD ⟨kd, n, xs, K⟩ = false from by unfold nodeD; rw [if_neg hno, if_pos h])
      rw [hE.out]
      rcases hpre with k5 | ⟨k5, k0⟩
      · subst k5
        clear hno
        go_enter Try.func35, Try.ntmps35
        go_wp2_with fail
        go_quiet (fail)
        go_wp2
        go_ret
        exact ⟨rfl, ((Chg.refl _ _).alloc _).drewN _⟩
      · omega
    · have hE := hid (show nodeD ⟨kd, n, xs, K⟩ = false from by unfold nodeD; rw [if_neg hno, if_neg h, if_pos h'])
      rw [hE.out]
      rcases hpre with k5 | ⟨k5, k0⟩
      · subst k5
        clear hno
        go_enter Try.func35, Try.ntmps35
        go_wp2_with fail
        go_quiet (fail)
        go_wp2
        go_ret
        exact ⟨rfl, ((Chg.refl _ _).alloc _).drewN _⟩
      · omega
    · by_cases k1 : kd = 1
      · subst k1
        obtain rfl : n = 0 := by omega
        have hE := hid (show nodeD ⟨1, 0, xs, K⟩ = rightB xs K from by unfold nodeD; rw [if_neg hno, if_neg h, if_neg h', if_pos rfl])
        rw [hE.out]
        clear hno hpre h h'
        go_enter Try.func35, Try.ntmps35
        go_wp2_with fail
        go_quiet (fail)
        go_wp2_with fail
        refine (leafRight_any F A l c xs K _ (H1.out _ (((Chg.refl _ _).alloc _).drewN _)) hlh.out).mono ?_
        rintro e w1 ⟨rfl, hc1⟩
        go_wp2
        go_ret
        exact ⟨rfl, (((Chg.refl _ _).alloc _).drewN _).trans hc1⟩
      · have hE := hid (show nodeD ⟨kd, n, xs, K⟩ = (decide (l = 0) && decide (K = 0)) from by unfold nodeD; rw [if_neg hno, if_neg h, if_neg h', if_neg k1, ← hlh.out])
        rw [hE.out]
        have e1 : (kd == 1) = false := beq_eq_false_iff_ne.2 k1
        rcases hpre with k5 | ⟨k5, k0⟩
        · subst k5
          clear hno
          go_enter Try.func35, Try.ntmps35
          go_wp2_with fail
          go_quiet (fail)
          go_wp2_with fail
          refine (zero_any K A l c _).mono ?_
          rintro e w1 ⟨rfl, hc1⟩
          go_wp2
          go_ret
          exact ⟨rfl, (((Chg.refl _ _).alloc _).drewN _).trans hc1⟩
        · subst k0
          have e5 : (kd == 5) = false := beq_eq_false_iff_ne.2 k5
          clear hno k5 k1
          go_enter Try.func35, Try.ntmps35
          go_wp2_with fail
          go_quiet (fail)
          go_wp2_with fail
          refine (zero_any K A l c _).mono ?_
          rintro e w1 ⟨rfl, hc1⟩
          go_wp2
          go_ret
          exact ⟨rfl, (((Chg.refl _ _).alloc _).drewN _).trans hc1⟩
end Go.Proofs.Ytllblpiakijpaaa

/- Layer 14: deep, Depth, Right, Leaves, Longest. -/
namespace Go.Proofs.Ytllblpiakijpaaa
open Go.RowKit
set_option linter.unusedVariables false
attribute [local go_sem ↓] Go.wp_at_zero Go.wp_at_succ
theorem map_split {α β : Type} {f : α → β} {ps : List α} {A B : List β} (h : ps.map f = A ++ B) : ∃ p q, ps = p ++ q ∧ p.map f = A ∧ q.map f = B := by
  obtain ⟨a, b, h1, h2, h3⟩ := List.map_eq_append_iff.1 h
  exact ⟨a, b, h1, h2, h3⟩
def DpInv (w : World) (t : GT) (atv ov iv : Value) (wr : World) : Prop :=
  ∃ (dn rs : List GT), Hid (t.kids = dn ++ rs) ∧ iv = .int .i64 dn.length ∧ atv = .int .i64 ((dn.flatMap GT.flat).length + 1 : Nat) ∧ ov = .int .i64 (maxD dn : Nat) ∧ Chg Nothing w wr
theorem kids_len (t : GT) : t.kids.length ≤ 2 := by cases t <;> simp [GT.kids]
theorem deep_le (t : GT) : t.deep ≤ t.flat.length := by
  induction t with
  | leaf x => simp [GT.deep, GT.flat]
  | one x a ih => simp [GT.deep, GT.flat]; omega
  | two x a b iha ihb => simp [GT.deep, GT.flat]; omega
theorem maxD_le (ts : List GT) : maxD ts ≤ (ts.flatMap GT.flat).length := by
  have : ∀ (ts : List GT) (m : Nat), ts.foldl (fun m t => max m t.deep) m ≤ m + (ts.flatMap GT.flat).length := by
    intro ts
    induction ts with
    | nil => intro m; simp
    | cons t ts ih =>
      intro m
      have h1 := ih (max m t.deep)
      have h2 := deep_le t
      simp only [List.foldl_cons, List.flatMap_cons, List.length_append]
      omega
  have := this ts 0
  unfold maxD; omega
set_option maxHeartbeats 8000000 in
set_option maxRecDepth 100000 in
theorem deep_any (m : Nat) : ∀ (t : GT) (F : Nat → Prop) (A : Option Addr) (n c : Nat) (ps : List NP) (w : World), t.flat.length ≤ m → t.ok → NRow F w A n c ps → ps.map NP.x = t.flat → n ≤ 1000000 →
    Calls Try.prog 38 #[.slice A n c] w fun e w' => e = .returned (.int .i64 (t.deep : Nat)) ∧ Chg Nothing w w' := by
  induction m with
  | zero => intro t F A n c ps w hm; have := t.flat_pos; omega
  | succ m ih =>
    intro t F A n c ps w hm ht H hps hnb
    have hle := H.row.le
    have hmx := H.row.max
    have hlen := H.len
    have hnl : n = t.flat.length := by rw [← hlen, ← hps, List.length_map]
    have hn0 : 0 < n := by have := t.flat_pos; omega
    have hn0' : (0 : Int) < (n : Int) := by omega
    obtain ⟨g, o, p, hA, -, hgl, hp, -, hpr, c0, c1, c2, c3⟩ := H.four hn0
    have hroot : p.x = t.root := by
      rw [hp]
      have : ps.map NP.x = t.root :: t.kids.flatMap GT.flat := by rw [hps, t.kids_flat]
      cases ps with
      | nil => cases this
      | cons q qs => simp only [List.map_cons, List.cons.injEq] at this; exact this.1
    have har := hid (GT.kids_ar ht)
    have hcl := hid (fun w => arity_any p.x.kind p.x.n p.x.K p.A p.l p.c w)
    rw [hroot, har.out] at hcl
    have hkl := kids_len t
    have hdp := hid (GT.kids_deep t)
    have HH := hid H
    have htH := hid ht
    have hpsH := hid hps
    have hnlH := hid hnl
    have hmH := hid hm
    have hmax := hid (maxD_le t.kids)
    have ihH := hid ih
    rw [hroot] at c0 c1 c3
    rw [hdp.out]
    rw [Nat.zero_mul, Nat.add_zero] at c0 c1 c2 c3
    generalize t.root.kind = rk at c0 hcl
    generalize t.root.n = rn at c1 hcl
    generalize t.root.K = rK at c3 hcl
    subst hA
    clear H ih hps ht hm hp hpr hroot hnl hlen
    go_enter Try.func38, Try.ntmps38
    go_wp2_with fail
    refine (hcl.out _).mono ?_
    rintro e w1 ⟨rfl, hc1⟩
    have HH1 := hid (HH.out.calm hc1)
    have hC1 := hid hc1
    clear hc1 c0 c1 c2 c3 hgl
    go_wp2_with fail
    go_loopw [4, 3, 10] (fun atv ov iv wr => DpInv w1 t atv ov iv wr) (fun _ _ iv _ => t.kids.length - (intOf iv).toNat)
    case atStart => exact ⟨[], t.kids, hid rfl, rfl, rfl, rfl, Chg.refl _ _⟩
    case round =>
      obtain ⟨dn, rs, hkk, rfl, rfl, rfl, hchg⟩ := hrel
      have hlk : dn.length + rs.length = t.kids.length := by rw [hkk.out, List.length_append]
      cases rs with
      | nil =>
        have hd : decide (dn.length < t.kids.length) = false := decide_eq_false (by simp at hlk; omega)
        have hdk := hid (show maxD dn = maxD t.kids from by rw [hkk.out, List.append_nil])
        have hbd : maxD t.kids ≤ n := by
          have h1 := hmax.out
          have h2 := congrArg List.length t.kids_flat
          have h3 := hnlH.out
          simp only [List.length_cons] at h2; omega
        rw [hdk.out]
        go_wp2
        go_ret
        exact ⟨rfl, hC1.out.trans hchg⟩
      | cons k rs =>
        have hd : decide (dn.length < t.kids.length) = true := decide_eq_true (by simp at hlk; omega)
        have hkm := hid (show k ∈ t.kids from by rw [hkk.out]; simp)
        -- the nodes, parted
        have hsp : ps.map NP.x = (t.root :: dn.flatMap GT.flat) ++ (k.flat ++ rs.flatMap GT.flat) := by rw [hpsH.out, t.kids_flat, hkk.out]; simp
        obtain ⟨p1, p23, e1, hm1, hm23⟩ := map_split hsp
        obtain ⟨p2, p3, e2, hm2, hm3⟩ := map_split hm23
        subst e1 e2
        have hl1 : p1.length = (dn.flatMap GT.flat).length + 1 := by rw [← List.length_map (f := NP.x), hm1]; simp
        have hl2 : p2.length = k.flat.length := by rw [← List.length_map (f := NP.x), hm2]
        have hnn : n = p1.length + p2.length + p3.length := by rw [← HH.out.len]; simp; omega
        have hks := hid (GT.kids_less k hkm.out)
        have hko := hid (GT.kids_ok htH.out k hkm.out)
        have hHr := HH1.out.calm hchg
        have hrow1 := hid (by have := (show NRow F wr (some ⟨g, o, none⟩) n c (p1 ++ (p2 ++ p3) ++ []) from by simpa using hHr).cut; exact this)
        have hrow2 := hid (by have := (show NRow F wr (some ⟨g, o, none⟩) n c (p1 ++ p2 ++ p3) from by simpa using hHr).cut; exact this)
        have hr1 := run_from elemNd sizeNd (some ⟨g, o, none⟩) n c (((dn.flatMap GT.flat).length + 1 : Nat) : Int) p1.length (by rw [hl1]) (by omega)
        have hr2 := run_between elemNd sizeNd (some ⟨g, o, none⟩) n c (((dn.flatMap GT.flat).length + 1 : Nat) : Int) ((((dn.flatMap GT.flat).length + 1 : Nat) : Int) + (k.flat.length : Nat)) p1.length (p1.length + p2.length) (by rw [hl1]) (by omega) (by omega) (by omega)
        have hszk := hid (show sizeN ((p2 ++ p3).map NP.x) = k.flat.length from by rw [List.map_append, hm2]; exact sizeN_tree k _ hko.out)
        have hbd2 : maxD dn ≤ n := by have := maxD_le dn; omega
        have hbk : k.deep ≤ n := by have := deep_le k; omega
        have hkp : 0 < k.flat.length := k.flat_pos
        have hnn' : p1.length + k.flat.length ≤ n := by omega
        have hs2 : p2.length + p3.length = n - p1.length := by omega
        have hs3 : p1.length + p2.length - p1.length = p2.length := by omega
        rw [hs3] at hr2
        have hrow1' := hid (show NRow F wr (pieceA (some ⟨g, o, none⟩) p1.length c 4) (n - p1.length) (c - p1.length) (p2 ++ p3) from by rw [← hs2, ← List.length_append]; exact hrow1.out)
        have hmd := hid (maxD_snoc dn k)
        have hat : ((dn.flatMap GT.flat).length + 1 : Nat) = p1.length := hl1.symm
        rw [hat] at hr1 hr2 ⊢
        replace hl1 := hid hl1
        replace hl2 := hid hl2
        replace hnn := hid hnn
        replace hs2 := hid hs2
        replace hs3 := hid hs3
        replace hat := hid hat
        replace hlk := hid hlk
        have hdn0 : (0 : Int) ≤ (dn.length : Int) := by omega
        have hdn2 : (dn.length : Int) ≤ 2 := by have := hlk.out; omega
        replace hm2 := hid hm2
        clear hsp hm1 hm23 hm3 hHr
        go_wp2_with fail
        refine (size_any F _ _ _ (p2 ++ p3) _ hrow1'.out (by omega)).mono ?_
        rintro e w2 ⟨rfl, hc2⟩
        rw [hszk.out]
        have hC2 := hid (hchg.trans hc2)
        have hrow3 := hid (hrow2.out.calm hc2)
        clear hc2 hchg
        go_wp2_with fail
        have hp2 : p2.length ≤ 1000000 := by have := hl2.out; omega
        refine (ihH.out k F _ _ _ p2 _ (by have h1 := hks.out; have h2 := hmH.out; omega) hko.out hrow3.out hm2.out hp2).mono ?_
        rintro e w3 ⟨rfl, hc3⟩
        have hC3 := hid (hC2.out.trans hc3)
        clear hc3
        go_wp2
        go_roundw
        case rel => exact ⟨dn ++ [k], rs, hid (by rw [hkk.out]; simp), by rw [List.length_append]; rfl, by have h1 := hl1.out; have h2 := hl2.out; rw [List.flatMap_append, List.length_append]; simp only [List.flatMap_cons, List.flatMap_nil, List.append_nil]; exact congrArg (Value.int .i64) (by omega), by rw [hmd.out]; exact congrArg (Value.int .i64) (by omega), hC3.out⟩
        case measure => have h := hlk.out; simp only [List.length_cons] at h; simp [intOf]; omega
end Go.Proofs.Ytllblpiakijpaaa

/- Layer 14: Depth, Right. -/
namespace Go.Proofs.Ytllblpiakijpaaa
open Go.RowKit
set_option linter.unusedVariables false
attribute [local go_sem ↓] Go.wp_at_zero Go.wp_at_succ
set_option maxHeartbeats 8000000 in
set_option maxRecDepth 100000 in
theorem Depth_any (F : Nat → Prop) (A : Option Addr) (n c : Nat) (ps : List NP) (w : World) (H : NRow F w A n c ps) (hn : n ≤ 1000000) :
    Calls Try.prog 17 #[.slice A n c] w fun e w' => e = .returned (.int .i64 (depthN (ps.map NP.x) : Nat)) ∧ Chg Nothing w w' := by
  have HH := hid H
  have hlen : (ps.map NP.x).length = n := by rw [List.length_map, H.len]
  clear H
  rcases size_depth (ps.map NP.x) with ⟨h0, hs, t, ht, e⟩ | ⟨hs, hd⟩
  · have hdn := hid (show depthN (ps.map NP.x) = t.deep from by rw [e, depthN_tree ht])
    have h0n : n ≠ 0 := by intro h; exact h0 (List.eq_nil_of_length_eq_zero (by omega))
    have hb0 : ((n : Int) == 0) = false := beq_eq_false_iff_ne.2 (by omega)
    rw [hdn.out]
    have hsz := hid (show sizeN (ps.map NP.x) = n from by rw [hs, hlen])
    have hth := hid ht
    have eh := hid e
    clear h0 hs ht e hlen h0n
    go_enter Try.func17, Try.ntmps17
    go_wp2_with fail
    refine (size_any F A n c ps _ HH.out hn).mono ?_
    rintro e w1 ⟨rfl, hc1⟩
    rw [hsz.out]
    have hC1 := hid hc1
    clear hc1
    go_wp2_with fail
    refine (deep_any _ t F A n c ps _ (Nat.le_refl _) hth.out (HH.out.calm hC1.out) eh.out hn).mono ?_
    rintro e w2 ⟨rfl, hc2⟩
    go_wp2
    go_ret
    exact ⟨rfl, hC1.out.trans hc2⟩
  · rw [hd]
    by_cases h0 : n = 0
    · subst h0
      clear hs hd hlen
      go_enter Try.func17, Try.ntmps17
      go_wp2
      go_ret
      exact ⟨rfl, Chg.refl _ _⟩
    · have hb0 : ((n : Int) == 0) = false := beq_eq_false_iff_ne.2 (by omega)
      have hne : ((sizeN (ps.map NP.x) : Int) != (n : Int)) = true := by
        rw [bne_iff_ne]
        rcases hs with h | h
        · rw [h] at hlen; simp at hlen; omega
        · rw [hlen] at h; omega
      clear hs hd hlen h0
      go_enter Try.func17, Try.ntmps17
      go_wp2_with fail
      refine (size_any F A n c ps _ HH.out hn).mono ?_
      rintro e w1 ⟨rfl, hc1⟩
      go_wp2
      go_ret
      exact ⟨rfl, hc1⟩
theorem notNode_any (F : Nat → Prop) (kd n K : Int) (A : Option Addr) (l c : Nat) (xs : List Cls) (w : World) (H : ClsRow F w A l c xs) (hl : xs.length = l) :
    Calls Try.prog 34 #[.agg #[.int .i64 kd, .int .i64 n, .slice A l c, .int .i64 K]] w fun e w' => e = .returned (.bool (!nodeD ⟨kd, n, xs, K⟩)) ∧ Chg Nothing w w' := by
  have hX := Blk.new w #[.int .i64 kd, .int .i64 n, .slice A l c, .int .i64 K] 40
  have x0 := hX.cell 0 rfl
  have x1 := hX.cell 1 rfl
  have x2 := hX.cell 2 rfl
  have x3 := hX.cell 3 rfl
  clear hX
  have H1 := hid (H.chg ((Chg.refl Nothing w).alloc (.cells #[.int .i64 kd, .int .i64 n, .slice A l c, .int .i64 K] 40)) (fun _ _ _ h => h))
  have hlh := hid hl
  clear H hl
  go_enter Try.func34, Try.ntmps34
  go_wp2_with fail
  refine (node_any F kd n K A l c xs _ H1.out hlh.out).mono ?_
  rintro e w1 ⟨rfl, hc1⟩
  go_wp2
  go_ret
  exact ⟨rfl, ((Chg.refl Nothing w).alloc _).trans hc1⟩
def IxfInv (L : List Nd) (w : World) (iv : Value) (wr : World) : Prop := ∃ k : Nat, k ≤ L.length ∧ iv = .int .i64 k ∧ Hid ((L.take k).any (fun x => !nodeD x) = false) ∧ Chg Nothing w wr
def IxfAns (L : List Nd) (w : World) (e : Ending) (w' : World) : Prop := ∃ r : Int, e = .returned (.int .i64 r) ∧ decide (0 ≤ r) = L.any (fun x => !nodeD x) ∧ Chg Nothing w w'
theorem take_nd {ps : List NP} {k : Nat} (h : k < ps.length) : (ps.map NP.x).take (k + 1) = (ps.map NP.x).take k ++ [(ps.getD k np0).x] := by
  rw [List.take_succ_eq_append_getElem (by simpa using h)]
  simp [h]
set_option maxHeartbeats 8000000 in
set_option maxRecDepth 100000 in
theorem indexFunc_any (F : Nat → Prop) (A : Option Addr) (n c : Nat) (ps : List NP) (w : World) (H : NRow F w A n c ps) :
    Calls Try.prog 55 #[.slice A n c, .func (.func 34) #[] #[]] w (IxfAns (ps.map NP.x) w) := by
  have HH := hid H
  have hle := H.row.le
  have hmx := H.row.max
  have hlen := hid H.len
  clear H
  go_enter Try.func55, Try.ntmps55
  go_wp2_with fail
  go_loopw [8] (fun iv wr => IxfInv (ps.map NP.x) w iv wr) (fun iv _ => n - (intOf iv).toNat)
  case atStart => exact ⟨0, Nat.zero_le _, rfl, hid rfl, Chg.refl _ _⟩
  case round =>
    obtain ⟨k, hk, rfl, hall, hchg⟩ := hrel
    rw [List.length_map, hlen.out] at hk
    rcases Nat.lt_or_ge k n with hkn | hkn
    · obtain ⟨g, o, p, rfl, -, hgl, hp, hpm, hpr, c0, c1, c2, c3⟩ := (HH.out.calm hchg).four hkn
      have htk := hid (take_nd (ps := ps) (k := k) (by rw [hlen.out]; exact hkn))
      rw [← hp] at htk
      have hmem := hid (show p.x ∈ ps.map NP.x from List.mem_map_of_mem hpm)
      replace hp := hid hp
      have hcl := hid (fun w' (hc : Chg Nothing wr w') => notNode_any F p.x.kind p.x.n p.x.K p.A p.l p.c p.x.p w' (hpr.chg hc (fun _ _ _ h => h)).row hpr.len)
      clear hpr hpm
      have hk0 : (0 : Int) ≤ (k : Int) := by omega
      have hkn' : (k : Int) < (n : Int) := by omega
      by_cases hb : nodeD p.x = true
      · have hcl2 := hid (fun w' (hc : Chg Nothing wr w') => by have := hcl.out w' hc; rw [show (⟨p.x.kind, p.x.n, p.x.p, p.x.K⟩ : Nd) = p.x from rfl, hb] at this; exact this)
        have hnx := hid (show ((ps.map NP.x).take (k + 1)).any (fun x => !nodeD x) = false from by rw [htk.out, List.any_append, hall.out]; simp [hb])
        replace hb := hid hb
        go_wp2_with fail
        refine (hcl2.out _ (Chg.refl _ _)).mono ?_
        rintro e w1 ⟨rfl, hc1⟩
        have hC := hid (hchg.trans hc1)
        clear hc1 hchg c0 c1 c2 c3
        go_wp2
        go_roundw
        case rel => exact ⟨k + 1, by rw [List.length_map, hlen.out]; exact hkn, by go_num, hnx, hC.out⟩
        case measure => simp [intOf]; omega
      · have hb' : nodeD p.x = false := by simpa using hb
        have hcl2 := hid (fun w' (hc : Chg Nothing wr w') => by have := hcl.out w' hc; rw [show (⟨p.x.kind, p.x.n, p.x.p, p.x.K⟩ : Nd) = p.x from rfl, hb'] at this; exact this)
        have hany := hid (show (ps.map NP.x).any (fun x => !nodeD x) = true from by rw [List.any_eq_true]; exact ⟨p.x, hmem.out, by rw [hb']; rfl⟩)
        replace hb' := hid hb'
        replace hb := hid hb
        go_wp2_with fail
        refine (hcl2.out _ (Chg.refl _ _)).mono ?_
        rintro e w1 ⟨rfl, hc1⟩
        have hC := hid (hchg.trans hc1)
        clear hc1 hchg c0 c1 c2 c3
        go_wp2
        go_ret
        exact ⟨_, rfl, by rw [hany.out]; exact decide_eq_true hk0, hC.out⟩
    · have hd : decide ((k : Int) < (n : Int)) = false := decide_eq_false (by omega)
      have hall2 := hid (show (ps.map NP.x).any (fun x => !nodeD x) = false from by
        have := hall.out
        rwa [List.take_of_length_le (by rw [List.length_map, hlen.out]; exact hkn)] at this)
      go_wp2
      go_ret
      exact ⟨-1, rfl, by rw [hall2.out]; rfl, hchg⟩
theorem containsFunc_any (F : Nat → Prop) (A : Option Addr) (n c : Nat) (ps : List NP) (w : World) (H : NRow F w A n c ps) :
    Calls Try.prog 33 #[.slice A n c, .func (.func 34) #[] #[]] w fun e w' => e = .returned (.bool ((ps.map NP.x).any fun x => !nodeD x)) ∧ Chg Nothing w w' := by
  have HH := hid H
  clear H
  go_enter Try.func33, Try.ntmps33
  go_wp2_with fail
  refine (indexFunc_any F A n c ps _ HH.out).mono ?_
  rintro e w1 ⟨r, rfl, hr, hc⟩
  have hb := hid hr
  clear hr
  go_wp2
  go_ret
  exact ⟨by rw [← hb.out]; rfl, hc⟩
theorem any_all (L : List Nd) : (L.any fun x => !nodeD x) = !(L.all nodeD) := by rw [List.all_eq_not_any_not, Bool.not_not]
set_option maxHeartbeats 8000000 in
set_option maxRecDepth 100000 in
theorem Right_any (F : Nat → Prop) (A : Option Addr) (n c : Nat) (ps : List NP) (w : World) (H : NRow F w A n c ps) (hn : n ≤ 1000000) :
    Calls Try.prog 14 #[.slice A n c] w fun e w' => e = .returned (.bool (rightN (ps.map NP.x))) ∧ Chg Nothing w w' := by
  have HH := hid H
  have hlen : (ps.map NP.x).length = n := by rw [List.length_map, H.len]
  clear H
  by_cases h64 : 64 < n
  · have hE := hid (show rightN (ps.map NP.x) = false from by unfold rightN; rw [hlen, decide_eq_false (by omega : ¬ n ≤ 64)]; rfl)
    rw [hE.out]
    have hb : (64 : Int) < (n : Int) := by omega
    clear hlen
    go_enter Try.func14, Try.ntmps14
    go_wp2
    go_ret
    exact ⟨rfl, Chg.refl _ _⟩
  · have hb : ¬ (64 : Int) < (n : Int) := by omega
    have hC := hid (fun w => containsFunc_any F A n c ps w)
    simp only [any_all] at hC
    cases hall : (ps.map NP.x).all nodeD with
    | false =>
      have hE := hid (show rightN (ps.map NP.x) = false from by unfold rightN; rw [hall]; simp)
      rw [hE.out]
      rw [hall] at hC
      replace hall := hid hall
      clear hlen
      go_enter Try.func14, Try.ntmps14
      go_wp2_with fail
      refine (hC.out _ HH.out).mono ?_
      rintro e w1 ⟨rfl, hc1⟩
      go_wp2
      go_ret
      exact ⟨rfl, hc1⟩
    | true =>
      have hE := hid (show rightN (ps.map NP.x) = (decide (1 ≤ depthN (ps.map NP.x)) && decide (depthN (ps.map NP.x) ≤ 16)) from by unfold rightN; rw [hall, hlen, decide_eq_true (by omega : n ≤ 64)]; rfl)
      rw [hE.out]
      rw [hall] at hC
      replace hall := hid hall
      clear hlen
      have hD := hid (fun w => Depth_any F A n c ps w)
      generalize depthN (ps.map NP.x) = d at hD hE ⊢
      have hcs : d = 0 ∨ (1 ≤ d ∧ d ≤ 16) ∨ (1 ≤ d ∧ 16 < d) := by omega
      rcases hcs with rfl | ⟨h1, h2⟩ | ⟨h1, h2⟩
      · go_enter Try.func14, Try.ntmps14
        go_wp2_with fail
        refine (hC.out _ HH.out).mono ?_
        rintro e w1 ⟨rfl, hc1⟩
        have hC1 := hid hc1
        clear hc1
        go_wp2_with fail
        refine (hD.out _ (HH.out.calm hC1.out) hn).mono ?_
        rintro e w2 ⟨rfl, hc2⟩
        go_wp2
        go_ret
        exact ⟨rfl, hC1.out.trans hc2⟩
      · have e1 := hid (show (decide (1 ≤ d) && decide (d ≤ 16)) = true from by rw [decide_eq_true h1, decide_eq_true h2]; rfl)
        rw [e1.out]
        have h1' : (0 : Int) < (d : Int) := by omega
        have h2' : (d : Int) ≤ 16 := by omega
        go_enter Try.func14, Try.ntmps14
        go_wp2_with fail
        refine (hC.out _ HH.out).mono ?_
        rintro e w1 ⟨rfl, hc1⟩
        have hC1 := hid hc1
        clear hc1
        go_wp2_with fail
        refine (hD.out _ (HH.out.calm hC1.out) hn).mono ?_
        rintro e w2 ⟨rfl, hc2⟩
        go_wp2
        go_ret
        exact ⟨rfl, hC1.out.trans hc2⟩
      · have e1 := hid (show (decide (1 ≤ d) && decide (d ≤ 16)) = false from by rw [decide_eq_false (by omega : ¬ d ≤ 16)]; simp)
        rw [e1.out]
        have h1' : (0 : Int) < (d : Int) := by omega
        have h2' : decide ((d : Int) ≤ 16) = false := decide_eq_false (by omega)
        go_enter Try.func14, Try.ntmps14
        go_wp2_with fail
        refine (hC.out _ HH.out).mono ?_
        rintro e w1 ⟨rfl, hc1⟩
        have hC1 := hid hc1
        clear hc1
        go_wp2_with fail
        refine (hD.out _ (HH.out.calm hC1.out) hn).mono ?_
        rintro e w2 ⟨rfl, hc2⟩
        go_wp2
        go_ret
        exact ⟨rfl, hC1.out.trans hc2⟩
end Go.Proofs.Ytllblpiakijpaaa

/- Layer 14: Same, Leaves, Longest. -/
namespace Go.Proofs.Ytllblpiakijpaaa
open Go.RowKit
set_option linter.unusedVariables false
attribute [local go_sem ↓] Go.wp_at_zero Go.wp_at_succ
set_option maxHeartbeats 4000000 in
theorem sEqual_any (F G : Nat → Prop) (A : Option Addr) (n c : Nat) (xs : List Cls) (B : Option Addr) (m d : Nat) (ys : List Cls) (w : World) (HA : ClsRow F w A n c xs) (hl : xs.length = n) (HB : ClsRow G w B m d ys) (hm : ys.length = m) :
    Calls Try.prog 61 #[.slice A n c, .slice B m d] w fun e w' => e = .returned (.bool (decide (xs = ys))) ∧ Chg Nothing w w' := by
  have HA' := hid HA
  have HB' := hid HB
  have hla := HA.le
  have hxa := HA.max
  have hlb := HB.le
  have hxb := HB.max
  have hlh := hid hl
  have hmh := hid hm
  clear HA HB hl hm
  by_cases hnm : n = m
  · subst hnm
    go_enter Try.func61, Try.ntmps61
    go_wp2_with fail
    go_loopw [13] (fun iv wr => ClInv n xs ys w iv wr) (fun iv _ => n - (intOf iv).toNat)
    case atStart => exact ⟨0, Nat.zero_le _, rfl, hid rfl, Chg.refl _ _⟩
    case round =>
      obtain ⟨k, hk, rfl, heq, hchg⟩ := hrel
      rcases Nat.lt_or_ge k n with hkn | hkn
      · obtain ⟨g, o, rfl, -, hgl, c0, c1, c2, c3⟩ := ClsRow.four (HA'.out.chg hchg (fun _ _ _ h => h)) hlh.out hkn
        obtain ⟨g2, o2, rfl, -, hgl2, d0, d1, d2, d3⟩ := ClsRow.four (HB'.out.chg hchg (fun _ _ _ h => h)) hmh.out hkn
        obtain ⟨x, hx⟩ : ∃ x, x = xs.getD k 0 := ⟨_, rfl⟩
        obtain ⟨y, hy⟩ : ∃ y, y = ys.getD k 0 := ⟨_, rfl⟩
        rw [← hx] at c0 c1 c2 c3
        rw [← hy] at d0 d1 d2 d3
        replace hx := hid hx
        replace hy := hid hy
        have hq := eq_class x y
        have hk0 : (0 : Int) ≤ (k : Int) := by omega
        have hkn' : (k : Int) < (n : Int) := by omega
        by_cases he : x = y
        · rw [decide_eq_true he] at hq
          unfold encC at hq
          have hnx := hid (take_same (by rw [hlh.out]; exact hkn) (by rw [hmh.out]; exact hkn) heq.out (by rw [← hx.out, ← hy.out]; exact he))
          replace he := hid he
          go_wp2_with fail
          go_quiet (fail)
          go_wp2
          go_roundw
          case rel => exact ⟨k + 1, hkn, by go_num, hnx, hchg.drewN _⟩
          case measure => simp [intOf]; omega
        · rw [decide_eq_false he] at hq
          unfold encC at hq
          have hne := hid (show decide (xs = ys) = false from decide_eq_false (fun e => he (by rw [hx.out, hy.out, e])))
          replace he := hid he
          go_wp2_with fail
          go_quiet (fail)
          go_wp2
          go_ret
          exact ⟨by rw [hne.out]; rfl, hchg.drewN _⟩
      · have hd : decide ((k : Int) < (n : Int)) = false := decide_eq_false (by omega)
        have hyes := hid (show decide (xs = ys) = true from decide_eq_true (by
          have h := heq.out
          rwa [List.take_of_length_le (by rw [hlh.out]; exact hkn), List.take_of_length_le (by rw [hmh.out]; exact hkn)] at h))
        go_wp2
        go_ret
        exact ⟨by rw [hyes.out]; rfl, hchg⟩
  · have hd : ((n : Int) != (m : Int)) = true := by rw [bne_iff_ne]; omega
    have hne := hid (show decide (xs = ys) = false from decide_eq_false (fun e => hnm (by rw [← hlh.out, ← hmh.out, e])))
    replace hnm := hid hnm
    go_enter Try.func61, Try.ntmps61
    go_wp2
    go_ret
    exact ⟨by rw [hne.out]; rfl, Chg.refl _ _⟩
def leafEq (p : List Cls) (K : Int) (q : List Cls) (J : Int) : Bool := decide (K = J) && decide (p = q)
set_option maxHeartbeats 4000000 in
theorem leafSame_any (F G : Nat → Prop) (A : Option Addr) (n c : Nat) (xs : List Cls) (K : Int) (B : Option Addr) (m d : Nat) (ys : List Cls) (J : Int) (w : World) (HA : ClsRow F w A n c xs) (hl : xs.length = n) (HB : ClsRow G w B m d ys) (hm : ys.length = m) :
    Calls Try.prog 43 #[.agg #[.slice A n c, .int .i64 K], .agg #[.slice B m d, .int .i64 J]] w fun e w' => e = .returned (.bool (leafEq xs K ys J)) ∧ Chg Nothing w w' := by
  have hX := Blk.new w #[.slice A n c, .int .i64 K] 36
  have hX2 := hX.alloc (.cells #[.slice B m d, .int .i64 J] 36)
  have x0 := hX2.cell 0 rfl
  have x1 := hX2.cell 1 rfl
  have hY := Blk.new (w.alloc (.cells #[.slice A n c, .int .i64 K] 36)) #[.slice B m d, .int .i64 J] 36
  have y0 := hY.cell 0 rfl
  have y1 := hY.cell 1 rfl
  rw [World.size_alloc] at y0 y1
  have hc := ((Chg.refl Nothing w).alloc (.cells #[.slice A n c, .int .i64 K] 36)).alloc (.cells #[.slice B m d, .int .i64 J] 36)
  have HA' := hid (HA.chg hc (fun _ _ _ h => h))
  have HB' := hid (HB.chg hc (fun _ _ _ h => h))
  have hC := hid hc
  have hlh := hid hl
  have hmh := hid hm
  clear HA HB hl hm hX hX2 hY hc
  unfold leafEq
  by_cases hKJ : K = J
  · have e := hid (show (decide (K = J) && decide (xs = ys)) = decide (xs = ys) from by rw [decide_eq_true hKJ]; rfl)
    rw [e.out]
    subst hKJ
    go_enter Try.func43, Try.ntmps43
    go_wp2_with fail
    refine (sEqual_any F G A n c xs B m d ys _ HA'.out hlh.out HB'.out hmh.out).mono ?_
    rintro e w1 ⟨rfl, hc1⟩
    go_wp2
    go_ret
    exact ⟨rfl, hC.out.trans hc1⟩
  · have e := hid (show (decide (K = J) && decide (xs = ys)) = false from by rw [decide_eq_false hKJ]; rfl)
    rw [e.out]
    have hb : (K == J) = false := beq_eq_false_iff_ne.2 hKJ
    replace hKJ := hid hKJ
    go_enter Try.func43, Try.ntmps43
    go_wp2
    go_ret
    exact ⟨rfl, hC.out⟩
def ndEq (x y : Nd) : Bool := decide (x.kind = y.kind) && decide (x.n = y.n) && leafEq x.p x.K y.p y.K
theorem ndEq_iff (x y : Nd) : ndEq x y = true ↔ x = y := by
  obtain ⟨k, n, p, K⟩ := x
  obtain ⟨k', n', p', K'⟩ := y
  unfold ndEq leafEq
  simp only [Bool.and_eq_true, decide_eq_true_eq, Nd.mk.injEq]
  constructor
  · rintro ⟨⟨h1, h2⟩, h3, h4⟩; exact ⟨h1, h2, h4, h3⟩
  · rintro ⟨h1, h2, h4, h3⟩; exact ⟨⟨h1, h2⟩, h3, h4⟩
set_option maxHeartbeats 8000000 in
set_option maxRecDepth 100000 in
theorem same1_any (F G : Nat → Prop) (k n K : Int) (A : Option Addr) (l c : Nat) (xs : List Cls) (k' n' K' : Int) (B : Option Addr) (m d : Nat) (ys : List Cls) (w : World) (HA : ClsRow F w A l c xs) (hl : xs.length = l) (HB : ClsRow G w B m d ys) (hm : ys.length = m) :
    Calls Try.prog 42 #[.agg #[.int .i64 k, .int .i64 n, .slice A l c, .int .i64 K], .agg #[.int .i64 k', .int .i64 n', .slice B m d, .int .i64 K']] w fun e w' => e = .returned (.bool (ndEq ⟨k, n, xs, K⟩ ⟨k', n', ys, K'⟩)) ∧ Chg Nothing w w' := by
  have hX := Blk.new w #[.int .i64 k, .int .i64 n, .slice A l c, .int .i64 K] 40
  have hX2 := hX.alloc (.cells #[.int .i64 k', .int .i64 n', .slice B m d, .int .i64 K'] 40)
  have x0 := hX2.cell 0 rfl
  have x1 := hX2.cell 1 rfl
  have x2 := hX2.cell 2 rfl
  have x3 := hX2.cell 3 rfl
  have hY := Blk.new (w.alloc (.cells #[.int .i64 k, .int .i64 n, .slice A l c, .int .i64 K] 40)) #[.int .i64 k', .int .i64 n', .slice B m d, .int .i64 K'] 40
  have y0 := hY.cell 0 rfl
  have y1 := hY.cell 1 rfl
  have y2 := hY.cell 2 rfl
  have y3 := hY.cell 3 rfl
  rw [World.size_alloc] at y0 y1 y2 y3
  have hc := ((Chg.refl Nothing w).alloc (.cells #[.int .i64 k, .int .i64 n, .slice A l c, .int .i64 K] 40)).alloc (.cells #[.int .i64 k', .int .i64 n', .slice B m d, .int .i64 K'] 40)
  have HA' := hid (HA.chg hc (fun _ _ _ h => h))
  have HB' := hid (HB.chg hc (fun _ _ _ h => h))
  have hC := hid hc
  have hlh := hid hl
  have hmh := hid hm
  clear HA HB hl hm hX hX2 hY hc
  unfold ndEq
  by_cases h1 : k = k'
  · by_cases h2 : n = n'
    · have e := hid (show (decide (k = k') && decide (n = n') && leafEq xs K ys K') = leafEq xs K ys K' from by rw [decide_eq_true h1, decide_eq_true h2]; rfl)
      simp only
      rw [e.out]
      subst h1 h2
      go_enter Try.func42, Try.ntmps42
      go_wp2_with fail
      refine (leafSame_any F G A l c xs K B m d ys K' _ HA'.out hlh.out HB'.out hmh.out).mono ?_
      rintro e w1 ⟨rfl, hc1⟩
      go_wp2
      go_ret
      exact ⟨rfl, hC.out.trans hc1⟩
    · have e := hid (show (decide (k = k') && decide (n = n') && leafEq xs K ys K') = false from by rw [decide_eq_false h2]; simp)
      simp only
      rw [e.out]
      subst h1
      have hb : (n == n') = false := beq_eq_false_iff_ne.2 h2
      replace h2 := hid h2
      go_enter Try.func42, Try.ntmps42
      go_wp2
      go_ret
      exact ⟨rfl, hC.out⟩
  · have e := hid (show (decide (k = k') && decide (n = n') && leafEq xs K ys K') = false from by rw [decide_eq_false h1]; rfl)
    simp only
    rw [e.out]
    have hb : (k == k') = false := beq_eq_false_iff_ne.2 h1
    replace h1 := hid h1
    go_enter Try.func42, Try.ntmps42
    go_wp2
    go_ret
    exact ⟨rfl, hC.out⟩
def EfInv (n : Nat) (L M : List Nd) (w : World) (iv : Value) (wr : World) : Prop := ∃ k : Nat, k ≤ n ∧ iv = .int .i64 k ∧ Hid (L.take k = M.take k) ∧ Chg Nothing w wr
def sameN (L M : List Nd) : Bool := decide (L.length = M.length) && (L.zip M).all fun p => ndEq p.1 p.2
theorem sameN_iff : ∀ (L M : List Nd), sameN L M = true ↔ L = M := by
  intro L
  induction L with
  | nil => intro M; cases M <;> simp [sameN]
  | cons x xs ih =>
    intro M
    cases M with
    | nil => simp [sameN]
    | cons y ys =>
      have := ih ys
      simp only [sameN, Bool.and_eq_true, decide_eq_true_eq, List.length_cons, List.zip_cons_cons, List.all_cons, List.cons.injEq] at this ⊢
      rw [ndEq_iff, ← this]
      constructor
      · rintro ⟨h1, h2, h3⟩; exact ⟨h2, by omega, h3⟩
      · rintro ⟨h1, h2, h3⟩; exact ⟨by omega, h1, h3⟩
theorem sameN_no {L M : List Nd} (h : L ≠ M) : sameN L M = false := by
  rw [Bool.eq_false_iff]; intro h2; exact h ((sameN_iff L M).1 h2)
set_option maxHeartbeats 8000000 in
set_option maxRecDepth 100000 in
theorem equalFunc_any (F G : Nat → Prop) (A : Option Addr) (n c : Nat) (ps : List NP) (B : Option Addr) (m d : Nat) (qs : List NP) (w : World) (HA : NRow F w A n c ps) (HB : NRow G w B m d qs) :
    Calls Try.prog 41 #[.slice A n c, .slice B m d, .func (.func 42) #[] #[]] w fun e w' => e = .returned (.bool (sameN (ps.map NP.x) (qs.map NP.x))) ∧ Chg Nothing w w' := by
  have HA' := hid HA
  have HB' := hid HB
  have hla := HA.row.le
  have hxa := HA.row.max
  have hlb := HB.row.le
  have hxb := HB.row.max
  have hlh := hid HA.len
  have hmh := hid HB.len
  clear HA HB
  by_cases hnm : n = m
  · subst hnm
    go_enter Try.func41, Try.ntmps41
    go_wp2_with fail
    go_loopw [17] (fun iv wr => EfInv n (ps.map NP.x) (qs.map NP.x) w iv wr) (fun iv _ => n - (intOf iv).toNat)
    case atStart => exact ⟨0, Nat.zero_le _, rfl, hid rfl, Chg.refl _ _⟩
    case round =>
      obtain ⟨k, hk, rfl, heq, hchg⟩ := hrel
      rcases Nat.lt_or_ge k n with hkn | hkn
      · obtain ⟨g, o, p, rfl, -, hgl, hp, -, hpr, c0, c1, c2, c3⟩ := (HA'.out.calm hchg).four hkn
        obtain ⟨g2, o2, q, rfl, -, hgl2, hq, -, hqr, d0, d1, d2, d3⟩ := (HB'.out.calm hchg).four hkn
        have hal : g < (wr.alloc (.cells #[.int .i64 p.x.kind, .int .i64 p.x.n, .slice p.A p.l p.c, .int .i64 p.x.K] 40)).heap.size := by rw [World.size_alloc]; omega
        have htp := hid (take_nd (ps := ps) (k := k) (by rw [hlh.out]; exact hkn))
        have htq := hid (take_nd (ps := qs) (k := k) (by rw [hmh.out]; exact hkn))
        rw [← hp] at htp
        rw [← hq] at htq
        have hdp := hid (show ∀ (h : ps.map NP.x = qs.map NP.x), p.x = q.x from fun h => by
          have := congrArg (fun l => l.getD k np0.x) h
          simp only [List.getD_eq_getElem?_getD, List.getElem?_map] at this
          have h1 : k < ps.length := by rw [hlh.out]; exact hkn
          have h2 : k < qs.length := by rw [hmh.out]; exact hkn
          rw [hp, hq]
          simpa [h1, h2] using this)
        replace hp := hid hp
        replace hq := hid hq
        have hcl := hid (fun w' (hc : Chg Nothing wr w') => same1_any F G p.x.kind p.x.n p.x.K p.A p.l p.c p.x.p q.x.kind q.x.n q.x.K q.A q.l q.c q.x.p w' (hpr.chg hc (fun _ _ _ h => h)).row hpr.len (hqr.chg hc (fun _ _ _ h => h)).row hqr.len)
        have hC0 := hid (((Chg.refl Nothing wr).alloc (.cells #[.int .i64 p.x.kind, .int .i64 p.x.n, .slice p.A p.l p.c, .int .i64 p.x.K] 40)).alloc (.cells #[.int .i64 q.x.kind, .int .i64 q.x.n, .slice q.A q.l q.c, .int .i64 q.x.K] 40))
        clear hpr hqr
        have hk0 : (0 : Int) ≤ (k : Int) := by omega
        have hkn' : (k : Int) < (n : Int) := by omega
        by_cases he : p.x = q.x
        · have hcl2 := hid (fun w' (hc : Chg Nothing wr w') => by have := hcl.out w' hc; rw [show ndEq ⟨p.x.kind, p.x.n, p.x.p, p.x.K⟩ ⟨q.x.kind, q.x.n, q.x.p, q.x.K⟩ = true from (ndEq_iff _ _).2 he] at this; exact this)
          have hnx := hid (show (ps.map NP.x).take (k + 1) = (qs.map NP.x).take (k + 1) from by rw [htp.out, htq.out, heq.out, he])
          replace he := hid he
          go_wp2_with fail
          refine (hcl2.out _ hC0.out).mono ?_
          rintro e w1 ⟨rfl, hc1⟩
          have hC := hid ((hchg.trans hC0.out).trans hc1)
          clear hc1 hchg c0 c1 c2 c3 d0 d1 d2 d3
          go_wp2
          go_roundw
          case rel => exact ⟨k + 1, hkn, by go_num, hnx, hC.out⟩
          case measure => simp [intOf]; omega
        · have hcl2 := hid (fun w' (hc : Chg Nothing wr w') => by have := hcl.out w' hc; rw [show ndEq ⟨p.x.kind, p.x.n, p.x.p, p.x.K⟩ ⟨q.x.kind, q.x.n, q.x.p, q.x.K⟩ = false from by rw [Bool.eq_false_iff]; intro h; exact he ((ndEq_iff _ _).1 h)] at this; exact this)
          have hne := hid (show sameN (ps.map NP.x) (qs.map NP.x) = false from sameN_no (fun h => he (hdp.out h)))
          replace he := hid he
          go_wp2_with fail
          refine (hcl2.out _ hC0.out).mono ?_
          rintro e w1 ⟨rfl, hc1⟩
          have hC := hid ((hchg.trans hC0.out).trans hc1)
          clear hc1 hchg c0 c1 c2 c3 d0 d1 d2 d3
          go_wp2
          go_ret
          exact ⟨by rw [hne.out]; rfl, hC.out⟩
      · have hd : decide ((k : Int) < (n : Int)) = false := decide_eq_false (by omega)
        have hyes := hid (show sameN (ps.map NP.x) (qs.map NP.x) = true from (sameN_iff _ _).2 (by
          have h := heq.out
          rwa [List.take_of_length_le (by rw [List.length_map, hlh.out]; exact hkn), List.take_of_length_le (by rw [List.length_map, hmh.out]; exact hkn)] at h))
        go_wp2
        go_ret
        exact ⟨by rw [hyes.out]; rfl, hchg⟩
  · have hd : ((n : Int) != (m : Int)) = true := by rw [bne_iff_ne]; omega
    have hne := hid (show sameN (ps.map NP.x) (qs.map NP.x) = false from sameN_no (fun e => hnm (by
      have := congrArg List.length e
      rwa [List.length_map, List.length_map, hlh.out, hmh.out] at this)))
    replace hnm := hid hnm
    go_enter Try.func41, Try.ntmps41
    go_wp2
    go_ret
    exact ⟨by rw [hne.out]; rfl, Chg.refl _ _⟩
theorem querySame_any (F G : Nat → Prop) (A : Option Addr) (n c : Nat) (ps : List NP) (B : Option Addr) (m d : Nat) (qs : List NP) (w : World) (HA : NRow F w A n c ps) (HB : NRow G w B m d qs) :
    Calls Try.prog 24 #[.slice A n c, .slice B m d] w fun e w' => e = .returned (.bool (sameN (ps.map NP.x) (qs.map NP.x))) ∧ Chg Nothing w w' := by
  have HA' := hid HA
  have HB' := hid HB
  clear HA HB
  go_enter Try.func24, Try.ntmps24
  go_wp2_with fail
  refine (equalFunc_any F G A n c ps B m d qs _ HA'.out HB'.out).mono ?_
  rintro e w1 ⟨rfl, hc1⟩
  go_wp2
  go_ret
  exact ⟨rfl, hc1⟩
end Go.Proofs.Ytllblpiakijpaaa

/- Layer 14, the document's: trees, Walk, Depth, Right. -/
namespace Go.Proofs.Ytllblpiakijpaaa
open Go.RowKit
set_option linter.unusedVariables false
attribute [local go_sem ↓] Go.wp_at_zero Go.wp_at_succ
/-! ### The walks -/
set_option maxHeartbeats 4000000 in
theorem trees_any (k : Int) (w : World) : Calls Try.prog 60 #[.int .i64 k] w fun e w' => e = .returned (.int .i64 (arS k)) ∧ w = w' := by
  have hcs : k = 1 ∨ (k ≠ 1 ∧ k = 2) ∨ (k ≠ 1 ∧ k ≠ 2 ∧ k = 3) ∨ (k ≠ 1 ∧ k ≠ 2 ∧ k ≠ 3 ∧ k = 4) ∨ (k ≠ 1 ∧ k ≠ 2 ∧ k ≠ 3 ∧ k ≠ 4 ∧ k = 5) ∨ (k ≠ 1 ∧ k ≠ 2 ∧ k ≠ 3 ∧ k ≠ 4 ∧ k ≠ 5) := by omega
  rcases hcs with rfl | ⟨_, rfl⟩ | ⟨_, _, rfl⟩ | ⟨_, _, _, rfl⟩ | ⟨_, _, _, _, rfl⟩ | ⟨h1, h2, h3, h4, h5⟩
  · go_enter Try.func60, Try.ntmps60
    go_wp2
    go_ret
    exact ⟨rfl, rfl⟩
  · go_enter Try.func60, Try.ntmps60
    go_wp2
    go_ret
    exact ⟨rfl, rfl⟩
  · go_enter Try.func60, Try.ntmps60
    go_wp2
    go_ret
    exact ⟨rfl, rfl⟩
  · go_enter Try.func60, Try.ntmps60
    go_wp2
    go_ret
    exact ⟨rfl, rfl⟩
  · go_enter Try.func60, Try.ntmps60
    go_wp2
    go_ret
    exact ⟨rfl, rfl⟩
  · have e1 : (k == 1) = false := beq_eq_false_iff_ne.2 h1
    have e4 : (k == 4) = false := beq_eq_false_iff_ne.2 h4
    have e5 : (k == 5) = false := beq_eq_false_iff_ne.2 h5
    have e2 : (k == 2) = false := beq_eq_false_iff_ne.2 h2
    have e3 : (k == 3) = false := beq_eq_false_iff_ne.2 h3
    have hE := hid (show arS k = -1 from by unfold arS; rw [if_neg h1, if_neg (by omega), if_neg (by omega)])
    clear h1 h2 h3 h4 h5
    rw [hE.out]
    go_enter Try.func60, Try.ntmps60
    go_wp2
    go_ret
    exact ⟨rfl, rfl⟩
def WkInv (L : List Nd) (a : Nat) (ar : Nat) (nv dv kv : Value) (wr w : World) : Prop :=
  ∃ (dn : List GT) (r : List Nd), dn.length ≤ ar ∧ kv = .int .i64 dn.length ∧ nv = .int .i64 (a + 1 + (dn.flatMap GT.flat).length : Nat) ∧ dv = .int .i64 (maxD dn : Nat) ∧ Hid (L.drop (a + 1) = dn.flatMap GT.flat ++ r) ∧
    Hid (takeN ar (L.drop (a + 1)) = match takeN (ar - dn.length) r with | none => none | some (ts, q) => some (dn ++ ts, q)) ∧ Chg Nothing w wr
set_option maxHeartbeats 16000000 in
set_option maxRecDepth 100000 in
theorem walk_any (m : Nat) : ∀ (F : Nat → Prop) (A : Option Addr) (n c : Nat) (ps : List NP) (a : Nat) (w : World), NRow F w A n c ps → n - a ≤ m → a ≤ n → n ≤ 1000000 →
    Calls Try.prog 39 #[.slice A n c, .int .i64 a] w fun e w' => e = .returned (.tuple #[.int .i64 (walkV (ps.map NP.x) a).1, .int .i64 (walkV (ps.map NP.x) a).2]) ∧ Chg Nothing w w' := by
  induction m with
  | zero =>
    intro F A n c ps a w H hm ha hn
    obtain rfl : a = n := by omega
    have hE := hid (show walkV (ps.map NP.x) a = (-1, 0) from by unfold walkV; rw [List.drop_eq_nil_of_le (by rw [List.length_map, H.len]; exact Nat.le_refl _)]; rfl)
    rw [hE.out]
    clear H
    go_enter Try.func39, Try.ntmps39
    go_wp2
    go_ret2
    exact ⟨rfl, Chg.refl _ _⟩
  | succ m ih =>
    intro F A n c ps a w H hm ha hn
    have hle := H.row.le
    have hmx := H.row.max
    rcases Nat.lt_or_ge a n with han | han
    · have hdr := drop_nd (ps := ps) (k := a) (by rw [H.len]; exact han)
      obtain ⟨g, o, p, rfl, -, hgl, hp, -, -, c0, c1, c2, c3⟩ := H.four han
      rw [← hp] at hdr
      clear hp c1 c2 c3
      have HH := hid H
      have ihH := hid ih
      have hlen := hid H.len
      have ha0 : (0 : Int) ≤ (a : Int) := by omega
      have han' : (a : Int) < (n : Int) := by omega
      have hnge : ¬ (n : Int) ≤ (a : Int) := by omega
      have hT := hid (trees_any p.x.kind)
      by_cases hneg : arS p.x.kind < 0
      · have hE := hid (show walkV (ps.map NP.x) a = (-1, 0) from by unfold walkV; rw [hdr, tk_no _ _ hneg])
        rw [hE.out]
        have hb : decide (arS p.x.kind < 0) = true := decide_eq_true hneg
        clear H ih
        generalize arS p.x.kind = ar at *
        replace hdr := hid hdr
        go_enter Try.func39, Try.ntmps39
        go_wp2_with fail
        refine (hT.out _).mono ?_
        rintro e w1 ⟨rfl, rfl⟩
        go_wp2
        go_ret2
        exact ⟨rfl, Chg.refl _ _⟩
      · obtain ⟨ar, hae⟩ : ∃ ar : Nat, arS p.x.kind = ar := ⟨(arS p.x.kind).toNat, by omega⟩
        have har2 : ar ≤ 2 := by have := arS_le p.x.kind; omega
        have hV := hid (show walkV (ps.map NP.x) a = match takeN ar ((ps.map NP.x).drop (a + 1)) with | none => (-1, 0) | some (ts, _) => (((a + 1 + (ts.flatMap GT.flat).length : Nat) : Int), ((maxD ts + 1 : Nat) : Int)) from by
          unfold walkV
          rw [hdr, tk_cons _ _ (by omega), hae, Int.toNat_natCast]
          cases h1 : takeN ar ((ps.map NP.x).drop (a + 1)) with
          | none => rfl
          | some q =>
            obtain ⟨ts, r⟩ := q
            have := takeN_len _ _ _ _ h1
            simp only []
            rw [mkT_flat (by omega), mkT_deep (by omega), List.length_cons]
            congr 2
            omega)
        rw [hae] at hT
        replace hdr := hid hdr
        replace hae := hid hae
        clear H ih hneg
        go_enter Try.func39, Try.ntmps39
        go_wp2_with fail
        refine (hT.out _).mono ?_
        rintro e w1 ⟨rfl, rfl⟩
        go_wp2_with fail
        go_loopw [6, 7, 8] (fun nv dv kv wr => WkInv (ps.map NP.x) a ar nv dv kv wr w) (fun _ _ kv _ => ar - (intOf kv).toNat)
        case atStart => exact ⟨[], _, Nat.zero_le _, rfl, rfl, rfl, hid rfl, hid (by rw [List.length_nil, Nat.sub_zero]; cases takeN ar ((ps.map NP.x).drop (a + 1)) <;> rfl), Chg.refl _ _⟩
        case round =>
          obtain ⟨dn, r, hdl, rfl, rfl, rfl, hdrop, htak, hchg⟩ := hrel
          have k0 := (hchg.cells.1 _ _ hgl).trans c0
          have hlr := congrArg List.length hdrop.out
          rw [List.length_append, List.length_drop, List.length_map, hlen.out] at hlr
          have hmd : maxD dn ≤ n := by have := maxD_le dn; omega
          obtain ⟨q, hqe⟩ : ∃ q, q = a + 1 + (dn.flatMap GT.flat).length := ⟨_, rfl⟩
          have hqn : q ≤ n := by omega
          have hqa : a + 1 ≤ q := by omega
          rw [← hqe]
          rcases Nat.lt_or_ge dn.length ar with hj | hj
          · have hd : decide (dn.length < ar) = true := decide_eq_true hj
            have hdd : (ps.map NP.x).drop q = r := by
              rw [hqe, ← List.drop_drop, hdrop.out, List.drop_left]
            have hcall := hid (fun w' (hc : Chg Nothing w w') => ihH.out F (some ⟨g, o, none⟩) n c ps q w' (HH.out.calm hc) (by omega) (by omega) hn)
            have hsub : ar - dn.length = (ar - dn.length - 1) + 1 := by omega
            have htk := htak.out
            rw [hsub, takeN_succ] at htk
            unfold walkV at hcall
            rw [hdd] at hcall
            have hnx0 : (0 : Int) ≤ (q : Int) := by omega
            cases htr : tk r with
            | none =>
              rw [htr] at hcall htk
              simp only at hcall
              have hfin := hid (show walkV (ps.map NP.x) a = (-1, 0) from by rw [hV.out, htk])
              replace hlr := hid hlr
              replace hqe := hid hqe
              replace hdd := hid hdd
              replace hsub := hid hsub
              replace htk := hid htk
              replace htr := hid htr
              go_wp2_with fail
              refine (hT.out _).mono ?_
              rintro e w2 ⟨rfl, rfl⟩
              go_wp2_with fail
              refine (hcall.out _ hchg).mono ?_
              rintro e w3 ⟨rfl, hc3⟩
              go_wp2
              go_ret2
              exact ⟨by rw [hfin.out]; rfl, hchg.trans hc3⟩
            | some q =>
              obtain ⟨t, r2⟩ := q
              rw [htr] at hcall htk
              simp only at hcall htk
              have hts := (tk_some htr).2
              have hlt := congrArg List.length hts
              rw [List.length_append] at hlt
              have hnew1 := hid (show (ps.map NP.x).drop (a + 1) = (dn ++ [t]).flatMap GT.flat ++ r2 from by rw [hdrop.out, hts]; simp)
              have hnew2 := hid (show takeN ar ((ps.map NP.x).drop (a + 1)) = match takeN (ar - (dn ++ [t]).length) r2 with | none => none | some (ts, q) => some ((dn ++ [t]) ++ ts, q) from by
                rw [htk, List.length_append, List.length_singleton, show ar - (dn.length + 1) = ar - dn.length - 1 from by omega]
                cases takeN (ar - dn.length - 1) r2 with
                | none => rfl
                | some q => obtain ⟨us, s⟩ := q; simp)
              have hsn := hid (maxD_snoc dn t)
              have htd : t.deep ≤ n := by have := deep_le t; omega
              have hfl := hid (show a + 1 + ((dn ++ [t]).flatMap GT.flat).length = q + t.flat.length from by rw [hqe, List.flatMap_append, List.length_append]; simp; omega)
              have hdl2 : (dn.length : Int) ≤ 2 := by omega
              have hnn0 : ¬ (((q + t.flat.length : Nat) : Int) < 0) := by omega
              replace hlr := hid hlr
              replace hqe := hid hqe
              replace hdd := hid hdd
              replace hsub := hid hsub
              replace htk := hid htk
              replace htr := hid htr
              replace hts := hid hts
              replace hlt := hid hlt
              rcases Nat.lt_or_ge (maxD dn) t.deep with hmt | hmt
              · have hgt : ((maxD dn : Nat) : Int) < ((t.deep : Nat) : Int) := by omega
                have hmx := hid (show max (maxD dn) t.deep = t.deep from by omega)
                go_wp2_with fail
                refine (hT.out _).mono ?_
                rintro e w2 ⟨rfl, rfl⟩
                go_wp2_with fail
                refine (hcall.out _ hchg).mono ?_
                rintro e w3 ⟨rfl, hc3⟩
                have hC3 := hid (hchg.trans hc3)
                clear hc3 hchg k0
                go_wp2
                go_roundw
                case rel => exact ⟨dn ++ [t], r2, by rw [List.length_append]; exact hj, by rw [List.length_append]; rfl, by rw [hfl.out]; rfl, by rw [hsn.out, hmx.out], hnew1, hnew2, hC3.out⟩
                case measure => simp [intOf]; omega
              · have hgt : ¬ ((maxD dn : Nat) : Int) < ((t.deep : Nat) : Int) := by omega
                have hmx := hid (show max (maxD dn) t.deep = maxD dn from by omega)
                go_wp2_with fail
                refine (hT.out _).mono ?_
                rintro e w2 ⟨rfl, rfl⟩
                go_wp2_with fail
                refine (hcall.out _ hchg).mono ?_
                rintro e w3 ⟨rfl, hc3⟩
                have hC3 := hid (hchg.trans hc3)
                clear hc3 hchg k0
                go_wp2
                go_roundw
                case rel => exact ⟨dn ++ [t], r2, by rw [List.length_append]; exact hj, by rw [List.length_append]; rfl, by rw [hfl.out]; rfl, by rw [hsn.out, hmx.out], hnew1, hnew2, hC3.out⟩
                case measure => simp [intOf]; omega
          · have hd : decide (dn.length < ar) = false := decide_eq_false (by omega)
            have he : ar - dn.length = 0 := by omega
            have hfin := hid (show walkV (ps.map NP.x) a = ((q : Int), ((maxD dn + 1 : Nat) : Int)) from by
              have htk := htak.out
              rw [he, takeN_zero] at htk
              rw [hV.out, htk, hqe]; simp)
            replace he := hid he
            replace hlr := hid hlr
            replace hqe := hid hqe
            go_wp2_with fail
            refine (hT.out _).mono ?_
            rintro e w2 ⟨rfl, rfl⟩
            go_wp2
            go_ret2
            exact ⟨by rw [hfin.out]; rfl, hchg⟩
    · obtain rfl : a = n := by omega
      have hE := hid (show walkV (ps.map NP.x) a = (-1, 0) from by unfold walkV; rw [List.drop_eq_nil_of_le (by rw [List.length_map, H.len]; exact Nat.le_refl _)]; rfl)
      rw [hE.out]
      clear H
      go_enter Try.func39, Try.ntmps39
      go_wp2
      go_ret2
      exact ⟨rfl, Chg.refl _ _⟩
theorem walk_depth (L : List Nd) : (walkV L 0).1 ≠ L.length ∧ depthN L = 0 ∨ (walkV L 0).1 = L.length ∧ (walkV L 0).2 = (depthN L : Nat) := by
  unfold walkV depthN
  rw [List.drop_zero]
  show _ ∨ _
  cases h : tk L with
  | none => left; refine ⟨?_, ?_⟩; simp only []; omega; unfold tk at h; rw [h]
  | some p =>
    obtain ⟨t, r⟩ := p
    have hL := (tk_some h).2
    have hl := congrArg List.length hL
    rw [List.length_append] at hl
    unfold tk at h
    rw [h]
    cases r with
    | nil => right; simp at hl ⊢; omega
    | cons y ys => left; simp at hl ⊢; omega
set_option maxHeartbeats 4000000 in
theorem refDepth_any (F : Nat → Prop) (A : Option Addr) (n c : Nat) (ps : List NP) (w : World) (H : NRow F w A n c ps) (hn : n ≤ 1000000) :
    Calls Try.prog 18 #[.slice A n c] w fun e w' => e = .returned (.int .i64 (depthN (ps.map NP.x) : Nat)) ∧ Chg Nothing w w' := by
  have hW := hid (fun w' (h : NRow F w' A n c ps) => walk_any n F A n c ps 0 w' h (by omega) (by omega) hn)
  have HH := hid H
  have hlen : (ps.map NP.x).length = n := by rw [List.length_map, H.len]
  clear H
  have hwd := walk_depth (ps.map NP.x)
  rw [hlen] at hwd
  generalize (walkV (ps.map NP.x) 0).1 = v1 at hW hwd
  generalize (walkV (ps.map NP.x) 0).2 = v2 at hW hwd
  generalize depthN (ps.map NP.x) = d at hwd ⊢
  clear hlen
  rcases hwd with ⟨h1, rfl⟩ | ⟨rfl, rfl⟩
  · have hb : (v1 != (n : Int)) = true := by rw [bne_iff_ne]; exact h1
    replace h1 := hid h1
    go_enter Try.func18, Try.ntmps18
    go_wp2_with fail
    refine (hW.out _ HH.out).mono ?_
    rintro e w1 ⟨rfl, hc1⟩
    go_wp2
    go_ret
    exact ⟨rfl, hc1⟩
  · go_enter Try.func18, Try.ntmps18
    go_wp2_with fail
    refine (hW.out _ HH.out).mono ?_
    rintro e w1 ⟨rfl, hc1⟩
    go_wp2
    go_ret
    exact ⟨rfl, hc1⟩
end Go.Proofs.Ytllblpiakijpaaa

/- Layer 14, the document's: node, Right, Same. -/
namespace Go.Proofs.Ytllblpiakijpaaa
open Go.RowKit
set_option linter.unusedVariables false
attribute [local go_sem ↓] Go.wp_at_zero Go.wp_at_succ
theorem size_zero (x : Cls) : decide ((sizeC x : Int) = 0) = decide (x = 0) := by
  apply decide_eq_decide.2
  constructor
  · intro h
    have h0 : sizeC x = 0 := by omega
    unfold sizeC sizeTo at h0
    have h1 := List.eq_nil_of_length_eq_zero h0
    rw [List.filter_eq_nil_iff] at h1
    exact cls_ext fun i hi => by have := h1 i (by simpa using hi); simpa using this
  · rintro rfl
    have : sizeC (0 : Cls) = 0 := by unfold sizeC sizeTo; rw [List.filter_eq_nil_iff.2 (by intro i _; simp)]; rfl
    omega
def RrInv (xs : List Cls) (n : Nat) (w : World) (iv : Value) (wr : World) : Prop := ∃ k : Nat, k ≤ n ∧ iv = .int .i64 k ∧ Hid (∀ j, j < k → xs.getD j 0 ≠ 0) ∧ Chg Nothing w wr
set_option maxHeartbeats 8000000 in
set_option maxRecDepth 100000 in
theorem refRight7_any (F : Nat → Prop) (A : Option Addr) (n c : Nat) (xs : List Cls) (K : Int) (w : World) (H : ClsRow F w A n c xs) (hl : xs.length = n) :
    Calls Try.prog 58 #[.agg #[.slice A n c, .int .i64 K]] w fun e w' => e = .returned (.bool (rightB xs K)) ∧ Chg Nothing w w' := by
  have hX := Blk.new w #[.slice A n c, .int .i64 K] 36
  have x0 := hX.cell 0 rfl
  have x1 := hX.cell 1 rfl
  have hlx := hX.lt
  clear hX
  have H1 := hid (fun w' (hc : Chg Nothing w w') => H.chg hc (fun _ _ _ h => h))
  have hlh := hid hl
  have hle := H.le
  have hmx := H.max
  have hrb : rightB xs K = decide (1 ≤ n ∧ n ≤ 64 ∧ (0 : Cls) ∉ xs ∧ 0 ≤ K ∧ K ≤ 64) := by unfold rightB; rw [hl]
  clear H hl
  have hcs : n < 1 ∨ (¬ n < 1 ∧ 64 < n) ∨ (¬ n < 1 ∧ ¬ 64 < n ∧ K < 0) ∨ (¬ n < 1 ∧ ¬ 64 < n ∧ ¬ K < 0 ∧ 64 < K) ∨ (¬ n < 1 ∧ ¬ 64 < n ∧ ¬ K < 0 ∧ ¬ 64 < K) := by omega
  rcases hcs with h | ⟨h, h2⟩ | ⟨h, h2, h3⟩ | ⟨h, h2, h3, h4⟩ | ⟨h, h2, h3, h4⟩
  · have hE := hid (show rightB xs K = false from by rw [hrb, decide_eq_false_iff_not]; omega)
    rw [hE.out]
    have b1 : decide ((n : Int) < 1) = true := decide_eq_true (by omega)
    clear hrb h
    go_enter Try.func58, Try.ntmps58
    go_wp2
    go_ret
    exact ⟨rfl, (Chg.refl _ _).alloc _⟩
  · have hE := hid (show rightB xs K = false from by rw [hrb, decide_eq_false_iff_not]; omega)
    rw [hE.out]
    have b1 : decide ((n : Int) < 1) = false := decide_eq_false (by omega)
    have b2 : decide ((64 : Int) < (n : Int)) = true := decide_eq_true (by omega)
    clear hrb h h2
    go_enter Try.func58, Try.ntmps58
    go_wp2
    go_ret
    exact ⟨rfl, (Chg.refl _ _).alloc _⟩
  · have hE := hid (show rightB xs K = false from by rw [hrb, decide_eq_false_iff_not]; omega)
    rw [hE.out]
    have b1 : decide ((n : Int) < 1) = false := decide_eq_false (by omega)
    have b2 : decide ((64 : Int) < (n : Int)) = false := decide_eq_false (by omega)
    clear hrb h h2
    go_enter Try.func58, Try.ntmps58
    go_wp2
    go_ret
    exact ⟨rfl, (Chg.refl _ _).alloc _⟩
  · have hE := hid (show rightB xs K = false from by rw [hrb, decide_eq_false_iff_not]; omega)
    rw [hE.out]
    have b1 : decide ((n : Int) < 1) = false := decide_eq_false (by omega)
    have b2 : decide ((64 : Int) < (n : Int)) = false := decide_eq_false (by omega)
    clear hrb h h2
    go_enter Try.func58, Try.ntmps58
    go_wp2
    go_ret
    exact ⟨rfl, (Chg.refl _ _).alloc _⟩
  · have hrb2 := hid (show rightB xs K = decide ((0 : Cls) ∉ xs) from by rw [hrb]; apply decide_eq_decide.2; constructor; exact fun h => h.2.2.1; exact fun h => ⟨by omega, by omega, h, by omega, by omega⟩)
    have b1 : decide ((n : Int) < 1) = false := decide_eq_false (by omega)
    have b2 : decide ((64 : Int) < (n : Int)) = false := decide_eq_false (by omega)
    clear hrb h h2
    go_enter Try.func58, Try.ntmps58
    go_wp2_with fail
    go_loopw [3] (fun iv wr => RrInv xs n (w.alloc (.cells #[.slice A n c, .int .i64 K] 36)) iv wr) (fun iv _ => n - (intOf iv).toNat)
    case atStart => exact ⟨0, Nat.zero_le _, rfl, hid (fun j h => by omega), Chg.refl _ _⟩
    case round =>
      obtain ⟨k, hk, rfl, hnz, hchg⟩ := hrel
      have y0 := (hchg.cells.1 _ _ hlx).trans x0
      have hC0 := hid (((Chg.refl Nothing w).alloc (.cells #[.slice A n c, .int .i64 K] 36)).trans hchg)
      rcases Nat.lt_or_ge k n with hkn | hkn
      · obtain ⟨g, o, rfl, -, hgl, c0, c1, c2, c3⟩ := ClsRow.four (H1.out _ hC0.out) hlh.out hkn
        obtain ⟨y, hy⟩ : ∃ y, y = xs.getD k 0 := ⟨_, rfl⟩
        have hmem := hid (show xs.getD k 0 ∈ xs from by
          have : k < xs.length := by rw [hlh.out]; exact hkn
          simp [this])
        rw [← hy] at c0 c1 c2 c3 hmem
        have hsz := hid (fun w => refSizeL y w)
        have hz := size_zero y
        have hk0 : (0 : Int) ≤ (k : Int) := by omega
        have hkn' : (k : Int) < (n : Int) := by omega
        by_cases hy0 : y = 0
        · rw [decide_eq_true hy0] at hz
          have hb : (((sizeC y : Nat) : Int) == 0) = true := beq_iff_eq.2 (of_decide_eq_true hz)
          have hR := hid (show rightB xs K = false from by rw [hrb2.out, decide_eq_false_iff_not]; intro h; exact h (hy0 ▸ hmem.out))
          generalize sizeC y = sz at hsz hb
          replace hy := hid hy
          replace hy0 := hid hy0
          clear hz
          go_wp2_with fail
          refine (hsz.out _).mono ?_
          rintro e w6 ⟨rfl, hc⟩
          have hC6 := hid (hC0.out.trans hc)
          clear hc c0 c1 c2 c3 y0
          go_wp2
          go_ret
          exact ⟨by rw [hR.out]; rfl, hC6.out⟩
        · rw [decide_eq_false hy0] at hz
          have hb : (((sizeC y : Nat) : Int) == 0) = false := beq_eq_false_iff_ne.2 (of_decide_eq_false hz)
          have hnz' := hid (show ∀ j, j < k + 1 → xs.getD j 0 ≠ 0 from fun j hj => by
            rcases Nat.lt_or_ge j k with h | h
            · exact hnz.out j h
            · have e : j = k := by omega
              rw [e, ← hy]; exact hy0)
          generalize sizeC y = sz at hsz hb
          replace hy := hid hy
          replace hy0 := hid hy0
          clear hz
          go_wp2_with fail
          refine (hsz.out _).mono ?_
          rintro e w6 ⟨rfl, hc⟩
          have hC6 := hid (hchg.trans hc)
          clear hc c0 c1 c2 c3 y0 hchg
          go_wp2
          go_roundw
          case rel => exact ⟨k + 1, hkn, by go_num, hnz', hC6.out⟩
          case measure => simp [intOf]; omega
      · have hd : decide ((k : Int) < (n : Int)) = false := decide_eq_false (by omega)
        have hR := hid (show rightB xs K = true from by
          rw [hrb2.out, decide_eq_true_eq]
          intro h
          obtain ⟨j, hj, e⟩ := List.getElem_of_mem h
          rw [hlh.out] at hj
          exact hnz.out j (by omega) (by rw [List.getD_eq_getElem?_getD, List.getElem?_eq_getElem (by rw [hlh.out]; exact hj)]; exact e))
        go_wp2
        go_ret
        exact ⟨by rw [hR.out]; rfl, hC0.out⟩
set_option maxHeartbeats 8000000 in
theorem refNode_any (F : Nat → Prop) (kd n K : Int) (A : Option Addr) (l c : Nat) (xs : List Cls) (w : World) (H : ClsRow F w A l c xs) (hl : xs.length = l) :
    Calls Try.prog 36 #[.agg #[.int .i64 kd, .int .i64 n, .slice A l c, .int .i64 K]] w fun e w' => e = .returned (.bool (nodeD ⟨kd, n, xs, K⟩)) ∧ Chg Nothing w w' := by
  have hX := Blk.new w #[.int .i64 kd, .int .i64 n, .slice A l c, .int .i64 K] 40
  have x0 := hX.cell 0 rfl
  have x1 := hX.cell 1 rfl
  have x2 := hX.cell 2 rfl
  have x3 := hX.cell 3 rfl
  clear hX
  have hlh := hid hl
  have H1 := hid (H.chg ((Chg.refl Nothing w).alloc (.cells #[.int .i64 kd, .int .i64 n, .slice A l c, .int .i64 K] 40)) (fun _ _ _ h => h))
  clear H hl
  by_cases h5 : kd = 5
  · subst h5
    have hcs : n < 0 ∨ (¬ n < 0 ∧ 1000000 < n) ∨ (¬ n < 0 ∧ ¬ 1000000 < n) := by omega
    rcases hcs with h | ⟨h, h'⟩ | ⟨h, h'⟩
    · have hE := hid (show nodeD ⟨5, n, xs, K⟩ = false from by unfold nodeD; rw [if_neg (by simp), if_pos h])
      rw [hE.out]
      go_enter Try.func36, Try.ntmps36
      go_wp2
      go_ret
      exact ⟨rfl, (Chg.refl _ _).alloc _⟩
    · have hE := hid (show nodeD ⟨5, n, xs, K⟩ = false from by unfold nodeD; rw [if_neg (by simp), if_neg h, if_pos h'])
      rw [hE.out]
      go_enter Try.func36, Try.ntmps36
      go_wp2
      go_ret
      exact ⟨rfl, (Chg.refl _ _).alloc _⟩
    · have hE := hid (show nodeD ⟨5, n, xs, K⟩ = (decide (l = 0) && decide (K = 0)) from by unfold nodeD; rw [if_neg (by simp), if_neg h, if_neg h', if_neg (by simp), hlh.out])
      by_cases hl0 : l = 0
      · subst hl0
        by_cases hK : K = 0
        · subst hK
          go_enter Try.func36, Try.ntmps36
          go_wp2
          go_ret
          exact ⟨by rw [hE.out]; rfl, (Chg.refl _ _).alloc _⟩
        · have e1 : (K == 0) = false := beq_eq_false_iff_ne.2 hK
          have hE2 := hid (show nodeD ⟨5, n, xs, K⟩ = false from by rw [hE.out, decide_eq_false hK]; rfl)
          replace hK := hid hK
          go_enter Try.func36, Try.ntmps36
          go_wp2
          go_ret
          exact ⟨by rw [hE2.out]; rfl, (Chg.refl _ _).alloc _⟩
      · have e1 : ((l : Int) == 0) = false := beq_eq_false_iff_ne.2 (by omega)
        have hE2 := hid (show nodeD ⟨5, n, xs, K⟩ = false from by rw [hE.out, decide_eq_false hl0]; rfl)
        replace hl0 := hid hl0
        go_enter Try.func36, Try.ntmps36
        go_wp2
        go_ret
        exact ⟨by rw [hE2.out]; rfl, (Chg.refl _ _).alloc _⟩
  · have e5 : (kd != 5) = true := by rw [bne_iff_ne]; exact h5
    by_cases hn : n = 0
    · subst hn
      by_cases h1 : kd = 1
      · subst h1
        have hE := hid (show nodeD ⟨1, 0, xs, K⟩ = rightB xs K from by unfold nodeD; rw [if_neg (by simp), if_neg (by simp), if_neg (by simp), if_pos rfl])
        rw [hE.out]
        clear h5
        go_enter Try.func36, Try.ntmps36
        go_wp2_with fail
        refine (refRight7_any F A l c xs K _ H1.out hlh.out).mono ?_
        rintro e w1 ⟨rfl, hc1⟩
        go_wp2
        go_ret
        exact ⟨rfl, ((Chg.refl _ _).alloc _).trans hc1⟩
      · have e1 : (kd == 1) = false := beq_eq_false_iff_ne.2 h1
        have hE := hid (show nodeD ⟨kd, 0, xs, K⟩ = (decide (l = 0) && decide (K = 0)) from by unfold nodeD; rw [if_neg (by simp), if_neg (by simp), if_neg (by simp), if_neg h1, hlh.out])
        replace h1 := hid h1
        replace h5 := hid h5
        by_cases hl0 : l = 0
        · subst hl0
          by_cases hK : K = 0
          · subst hK
            go_enter Try.func36, Try.ntmps36
            go_wp2
            go_ret
            exact ⟨by rw [hE.out]; rfl, (Chg.refl _ _).alloc _⟩
          · have e1 : (K == 0) = false := beq_eq_false_iff_ne.2 hK
            have hE2 := hid (show nodeD ⟨kd, 0, xs, K⟩ = false from by rw [hE.out, decide_eq_false hK]; rfl)
            replace hK := hid hK
            go_enter Try.func36, Try.ntmps36
            go_wp2
            go_ret
            exact ⟨by rw [hE2.out]; rfl, (Chg.refl _ _).alloc _⟩
        · have e1 : ((l : Int) == 0) = false := beq_eq_false_iff_ne.2 (by omega)
          have hE2 := hid (show nodeD ⟨kd, 0, xs, K⟩ = false from by rw [hE.out, decide_eq_false hl0]; rfl)
          replace hl0 := hid hl0
          go_enter Try.func36, Try.ntmps36
          go_wp2
          go_ret
          exact ⟨by rw [hE2.out]; rfl, (Chg.refl _ _).alloc _⟩
    · have en : (n != 0) = true := by rw [bne_iff_ne]; exact hn
      have hE := hid (show nodeD ⟨kd, n, xs, K⟩ = false from by unfold nodeD; exact if_pos ⟨h5, hn⟩)
      rw [hE.out]
      replace h5 := hid h5
      replace hn := hid hn
      go_enter Try.func36, Try.ntmps36
      go_wp2
      go_ret
      exact ⟨rfl, (Chg.refl _ _).alloc _⟩
def RgtInv (L : List Nd) (w : World) (iv : Value) (wr : World) : Prop := ∃ k : Nat, k ≤ L.length ∧ iv = .int .i64 k ∧ Hid ((L.take k).all nodeD = true) ∧ Chg Nothing w wr
set_option maxHeartbeats 8000000 in
set_option maxRecDepth 100000 in
theorem refRight_any (F : Nat → Prop) (A : Option Addr) (n c : Nat) (ps : List NP) (w : World) (H : NRow F w A n c ps) (hn : n ≤ 1000000) :
    Calls Try.prog 16 #[.slice A n c] w fun e w' => e = .returned (.bool (rightN (ps.map NP.x))) ∧ Chg Nothing w w' := by
  have HH := hid H
  have hle := H.row.le
  have hmx := H.row.max
  have hlen := hid H.len
  clear H
  go_enter Try.func16, Try.ntmps16
  go_wp2_with fail
  go_loopw [3] (fun iv wr => RgtInv (ps.map NP.x) w iv wr) (fun iv _ => n - (intOf iv).toNat)
  case atStart => exact ⟨0, Nat.zero_le _, rfl, hid rfl, Chg.refl _ _⟩
  case round =>
    obtain ⟨k, hk, rfl, hall, hchg⟩ := hrel
    rw [List.length_map, hlen.out] at hk
    rcases Nat.lt_or_ge k n with hkn | hkn
    · obtain ⟨g, o, p, rfl, -, hgl, hp, hpm, hpr, c0, c1, c2, c3⟩ := (HH.out.calm hchg).four hkn
      have htk := hid (take_nd (ps := ps) (k := k) (by rw [hlen.out]; exact hkn))
      rw [← hp] at htk
      have hmem := hid (show p.x ∈ ps.map NP.x from List.mem_map_of_mem hpm)
      replace hp := hid hp
      have hcl := hid (refNode_any F p.x.kind p.x.n p.x.K p.A p.l p.c p.x.p wr hpr.row hpr.len)
      clear hpr hpm
      have hk0 : (0 : Int) ≤ (k : Int) := by omega
      have hkn' : (k : Int) < (n : Int) := by omega
      by_cases hb : nodeD p.x = true
      · have hcl2 := hid (by have := hcl.out; rw [show (⟨p.x.kind, p.x.n, p.x.p, p.x.K⟩ : Nd) = p.x from rfl, hb] at this; exact this)
        have hnx := hid (show ((ps.map NP.x).take (k + 1)).all nodeD = true from by rw [htk.out, List.all_append, hall.out]; simp [hb])
        replace hb := hid hb
        go_wp2_with fail
        refine hcl2.out.mono ?_
        rintro e w1 ⟨rfl, hc1⟩
        have hC := hid (hchg.trans hc1)
        clear hc1 hchg c0 c1 c2 c3
        go_wp2
        go_roundw
        case rel => exact ⟨k + 1, by rw [List.length_map, hlen.out]; exact hkn, by go_num, hnx, hC.out⟩
        case measure => simp [intOf]; omega
      · have hb' : nodeD p.x = false := by simpa using hb
        have hcl2 := hid (by have := hcl.out; rw [show (⟨p.x.kind, p.x.n, p.x.p, p.x.K⟩ : Nd) = p.x from rfl, hb'] at this; exact this)
        have hany := hid (show rightN (ps.map NP.x) = false from by
          have : (ps.map NP.x).all nodeD = false := by rw [Bool.eq_false_iff]; intro h; rw [List.all_eq_true] at h; exact hb (h _ hmem.out)
          unfold rightN; rw [this]; simp)
        replace hb' := hid hb'
        replace hb := hid hb
        go_wp2_with fail
        refine hcl2.out.mono ?_
        rintro e w1 ⟨rfl, hc1⟩
        have hC := hid (hchg.trans hc1)
        clear hc1 hchg c0 c1 c2 c3
        go_wp2
        go_ret
        exact ⟨by rw [hany.out]; rfl, hC.out⟩
    · have hd : decide ((k : Int) < (n : Int)) = false := decide_eq_false (by omega)
      have hR := hid (show rightN (ps.map NP.x) = (decide (n ≤ 64) && decide (1 ≤ depthN (ps.map NP.x)) && decide (depthN (ps.map NP.x) ≤ 16)) from by
        have := hall.out
        rw [List.take_of_length_le (by rw [List.length_map, hlen.out]; exact hkn)] at this
        unfold rightN; rw [this, List.length_map, hlen.out, Bool.and_true])
      have hD := hid (fun w' (hc : Chg Nothing w w') => refDepth_any F A n c ps w' (HH.out.calm hc) hn)
      generalize depthN (ps.map NP.x) = dd at hD hR
      have hcs : 64 < n ∨ (n ≤ 64 ∧ dd = 0) ∨ (n ≤ 64 ∧ 1 ≤ dd ∧ dd ≤ 16) ∨ (n ≤ 64 ∧ 1 ≤ dd ∧ 16 < dd) := by omega
      rcases hcs with h | ⟨h, rfl⟩ | ⟨h, h1, h2⟩ | ⟨h, h1, h2⟩
      · have hE := hid (show rightN (ps.map NP.x) = false from by rw [hR.out, decide_eq_false (by omega : ¬ n ≤ 64)]; rfl)
        have b1 : decide ((n : Int) ≤ 64) = false := decide_eq_false (by omega)
        go_wp2
        go_ret
        exact ⟨by rw [hE.out]; rfl, hchg⟩
      · have hE := hid (show rightN (ps.map NP.x) = false from by rw [hR.out]; simp)
        have b1 : decide ((n : Int) ≤ 64) = true := decide_eq_true (by omega)
        go_wp2_with fail
        refine (hD.out _ hchg).mono ?_
        rintro e w2 ⟨rfl, hc2⟩
        go_wp2
        go_ret
        exact ⟨by rw [hE.out]; rfl, hchg.trans hc2⟩
      · have hE := hid (show rightN (ps.map NP.x) = true from by rw [hR.out, decide_eq_true h, decide_eq_true h1, decide_eq_true h2]; rfl)
        have b1 : decide ((n : Int) ≤ 64) = true := decide_eq_true (by omega)
        have b2 : decide ((1 : Int) ≤ (dd : Int)) = true := decide_eq_true (by omega)
        have b3 : decide ((dd : Int) ≤ 16) = true := decide_eq_true (by omega)
        go_wp2_with fail
        refine (hD.out _ hchg).mono ?_
        rintro e w2 ⟨rfl, hc2⟩
        have hC2 := hid (hchg.trans hc2)
        go_wp2_with fail
        refine (hD.out _ hC2.out).mono ?_
        rintro e w3 ⟨rfl, hc3⟩
        go_wp2
        go_ret
        exact ⟨by rw [hE.out]; rfl, hC2.out.trans hc3⟩
      · have hE := hid (show rightN (ps.map NP.x) = false from by rw [hR.out, decide_eq_false (by omega : ¬ dd ≤ 16)]; simp)
        have b1 : decide ((n : Int) ≤ 64) = true := decide_eq_true (by omega)
        have b2 : decide ((1 : Int) ≤ (dd : Int)) = true := decide_eq_true (by omega)
        have b3 : decide ((dd : Int) ≤ 16) = false := decide_eq_false (by omega)
        go_wp2_with fail
        refine (hD.out _ hchg).mono ?_
        rintro e w2 ⟨rfl, hc2⟩
        have hC2 := hid (hchg.trans hc2)
        go_wp2_with fail
        refine (hD.out _ hC2.out).mono ?_
        rintro e w3 ⟨rfl, hc3⟩
        go_wp2
        go_ret
        exact ⟨by rw [hE.out]; rfl, hC2.out.trans hc3⟩
end Go.Proofs.Ytllblpiakijpaaa

/- Layer 14: Leaves, Longest; the document's Same. -/
namespace Go.Proofs.Ytllblpiakijpaaa
open Go.RowKit
set_option linter.unusedVariables false
attribute [local go_sem ↓] Go.wp_at_zero Go.wp_at_succ
/-- A leaf, and where its elements lie. -/
structure LP where
  p : List Cls
  K : Int
  A : Option Addr
  l : Nat
  c : Nat
def lfL (q : LP) : List Value := [.slice q.A q.l q.c, .int .i64 q.K]
theorem lfL_len (q : LP) : (lfL q).length = 2 := rfl
theorem lfL_one (q : LP) : ∀ u ∈ lfL q, u.oneCell' = true := by intro u hu; unfold lfL at hu; simp at hu; rcases hu with rfl | rfl <;> rfl
def lp0 : LP := ⟨[], 0, none, 0, 0⟩
structure LfRead (F : Nat → Prop) (w : World) (q : LP) : Prop where
  row : RowAt 4 F w q.A q.l q.c (q.p.flatMap clsL)
  len : q.p.length = q.l
structure LRow (F : Nat → Prop) (w : World) (A : Option Addr) (n c : Nat) (qs : List LP) : Prop where
  len : qs.length = n
  row : RowAt 2 F w A n c (qs.flatMap lfL)
  els : ∀ q ∈ qs, LfRead F w q
theorem LfRead.chg {F S : Nat → Prop} {w w' : World} {q : LP} (h : LfRead F w q) (hc : Chg S w w') (hd : ∀ k, k < w.heap.size → F k → ¬ S k) : LfRead F w' q := ⟨h.row.chg hc hd, h.len⟩
theorem LRow.chg {F S : Nat → Prop} {w w' : World} {A : Option Addr} {n c : Nat} {qs : List LP} (h : LRow F w A n c qs) (hc : Chg S w w') (hd : ∀ k, k < w.heap.size → F k → ¬ S k) : LRow F w' A n c qs :=
  ⟨h.len, h.row.chg hc hd, fun q hq => (h.els q hq).chg hc hd⟩
theorem LRow.calm {F : Nat → Prop} {w w' : World} {A : Option Addr} {n c : Nat} {qs : List LP} (h : LRow F w A n c qs) (hc : Chg Nothing w w') : LRow F w' A n c qs := h.chg hc (fun _ _ _ h => h)
theorem LRow.two {F : Nat → Prop} {w : World} {A : Option Addr} {n c : Nat} {qs : List LP} (h : LRow F w A n c qs) {k : Nat} (hk : k < n) :
    ∃ g o q, A = some ⟨g, o, none⟩ ∧ F g ∧ g < w.heap.size ∧ q = qs.getD k lp0 ∧ q ∈ qs ∧ LfRead F w q ∧ w.cell? ⟨g, o + k * 2, none⟩ = some (.slice q.A q.l q.c) ∧ w.cell? ⟨g, o + k * 2 + 1, none⟩ = some (.int .i64 q.K) := by
  obtain ⟨g, o, e, hF, hlt, hc⟩ := h.row.cell hk (by decide)
  have c0 := hc 0 (by decide)
  have c1 := hc 1 (by decide)
  have hkl : k < qs.length := by rw [h.len]; exact hk
  rw [flat_getD lfL 2 lfL_len lp0 qs k _ hkl (by decide)] at c0 c1
  have hm : qs.getD k lp0 ∈ qs := by simp [hkl]
  exact ⟨g, o, qs.getD k lp0, e, hF, hlt, rfl, hm, h.els _ hm, c0, c1⟩
def toLP (p : NP) : LP := ⟨p.x.p, p.x.K, p.A, p.l, p.c⟩
def leavesP (ps : List NP) : List LP := (ps.filter fun p => decide (p.x.kind = 1)).map toLP
theorem infoLf : (Try.prog.info? 36).map (fun i => (i.zero, i.size, i.bytes)) = some (some (.agg #[.slice none 0 0, .int .i64 0]), 2, 32) := by kernel_rfl
theorem leavesP_take (ps : List NP) (k : Nat) (h : k < ps.length) : leavesP (ps.take (k + 1)) = if (ps.getD k np0).x.kind = 1 then leavesP (ps.take k) ++ [toLP (ps.getD k np0)] else leavesP (ps.take k) := by
  unfold leavesP
  rw [List.take_succ_eq_append_getElem h, List.filter_append, List.map_append]
  have e : ps.getD k np0 = ps[k] := by simp [h]
  rw [e]
  by_cases hk : ps[k].x.kind = 1
  · rw [if_pos hk, List.filter_cons_of_pos (by simpa using hk)]; rfl
  · rw [if_neg hk, List.filter_cons_of_neg (by simpa using hk)]; simp
def LvInv (w : World) (n : Nat) (ps : List NP) (ov iv : Value) (wr : World) : Prop :=
  ∃ (k j : Nat) (B : Option Addr) (d : Nat), k ≤ n ∧ j ≤ k ∧ iv = .int .i64 k ∧ ov = .slice B j d ∧ Hid ((leavesP (ps.take k)).length = j) ∧ Hid (wr.ownsRow w.heap.size 36 2 (.slice B j d) j ((leavesP (ps.take k)).flatMap lfL)) ∧ Chg Nothing w wr
def LvAns (F : Nat → Prop) (ps : List NP) (w : World) (e : Ending) (w' : World) : Prop :=
  ∃ (B : Option Addr) (j d : Nat), e = .returned (.slice B j d) ∧ LRow (fun k => F k ∨ w.heap.size ≤ k) w' B j d (leavesP ps) ∧ w'.ownsRow w.heap.size 36 2 (.slice B j d) j ((leavesP ps).flatMap lfL) ∧ Chg Nothing w w'
theorem lv_end {F : Nat → Prop} {ps : List NP} {w wr : World} {A : Option Addr} {n c : Nat} (HH : NRow F w A n c ps) {B : Option Addr} {j d : Nat} (hl : (leavesP ps).length = j) (ho : wr.ownsRow w.heap.size 36 2 (.slice B j d) j ((leavesP ps).flatMap lfL)) (hc : Chg Nothing w wr) :
    LvAns F ps w (.returned (.slice B j d)) wr := by
  refine ⟨B, j, d, rfl, ⟨hl, (RowAt.of_own ho).mono (fun k _ hF => .inr hF.2), fun q hq => ?_⟩, ho, hc⟩
  unfold leavesP at hq
  obtain ⟨p, hp, rfl⟩ := List.mem_map.1 hq
  have hp' := (List.mem_filter.1 hp).1
  have := (HH.calm hc).els p hp'
  exact ⟨this.row.mono (fun k _ hF => .inl hF), this.len⟩
set_option maxHeartbeats 8000000 in
set_option maxRecDepth 100000 in
theorem leaves_any (F : Nat → Prop) (A : Option Addr) (n c : Nat) (ps : List NP) (w : World) (H : NRow F w A n c ps) (hn : n ≤ 1000000) :
    Calls Try.prog 19 #[.slice A n c] w (LvAns F ps w) := by
  have HH := hid H
  have hle := H.row.le
  have hmx := H.row.max
  have hlen := hid H.len
  clear H
  go_enter Try.func19, Try.ntmps19
  go_wp2_with fail
  go_loopw [3, 8] (fun ov iv wr => LvInv w n ps ov iv wr) (fun _ iv _ => n - (intOf iv).toNat)
  case atStart => exact ⟨0, 0, none, 0, Nat.zero_le _, Nat.le_refl _, rfl, rfl, hid rfl, hid (World.ownsRow_nil _ _ _ _), Chg.refl _ _⟩
  case round =>
    obtain ⟨k, j, B, d, hk, hj, rfl, rfl, hjl, hO, hchg⟩ := hrel
    rcases Nat.lt_or_ge k n with hkn | hkn
    · obtain ⟨g, o, p, rfl, -, hgl, hp, -, -, c0, c1, c2, c3⟩ := (HH.out.calm hchg).four hkn
      have htk := hid (leavesP_take ps k (by rw [hlen.out]; exact hkn))
      rw [← hp] at htk
      replace hp := hid hp
      have hk0 : (0 : Int) ≤ (k : Int) := by omega
      have hkn' : (k : Int) < (n : Int) := by omega
      have hsz := hid hchg.size
      by_cases h1 : p.x.kind = 1
      · have hb : (p.x.kind == 1) = true := beq_iff_eq.2 h1
        have htk2 := hid (show leavesP (ps.take (k + 1)) = leavesP (ps.take k) ++ [toLP p] from by rw [htk.out, if_pos h1])
        replace h1 := hid h1
        go_wp2_with (at_builtin; (refine append_cells (w := wr.alloc _) rfl _ _ 31 rfl w.heap.size 36 (.agg #[.slice none 0 0, .int .i64 0]) 2 32 Try.underlying31 infoLf rfl (by decide) B d j _ rfl (own_chg hO.out ((Chg.refl Nothing wr).alloc _) (fun _ _ h => h)) (lfL (toLP p)) (by rw [World.size_alloc]; rfl) rfl (lfL_one _) ?_ ?_ ?_ ?_))
        · omega
        · omega
        · rw [World.size_alloc]; have := hsz.out; omega
        intro B' d' w6 hown6 hc6 hA
        have hown7 := hid hown6
        have hC7 := hid ((hchg.alloc (.cells #[.int .i64 p.x.kind, .int .i64 p.x.n, .slice p.A p.l p.c, .int .i64 p.x.K] 40)).then hc6 (fun k hk h => by have := own_of hO.out _ h; omega))
        clear hown6 hc6 hA hchg c0 c1 c2 c3
        go_wp2
        go_roundw
        case rel => exact ⟨k + 1, j + 1, B', d', hkn, by omega, by go_num, rfl, hid (by rw [htk2.out, List.length_append, hjl.out]; rfl), hid (by rw [htk2.out, List.flatMap_append]; simpa using hown7.out), hC7.out⟩
        case measure => simp [intOf]; omega
      · have hb : (p.x.kind == 1) = false := beq_eq_false_iff_ne.2 h1
        have htk2 := hid (show leavesP (ps.take (k + 1)) = leavesP (ps.take k) from by rw [htk.out, if_neg h1])
        replace h1 := hid h1
        have hC7 := hid (hchg.alloc (.cells #[.int .i64 p.x.kind, .int .i64 p.x.n, .slice p.A p.l p.c, .int .i64 p.x.K] 40))
        have hO7 := hid (own_chg hO.out ((Chg.refl Nothing wr).alloc (.cells #[.int .i64 p.x.kind, .int .i64 p.x.n, .slice p.A p.l p.c, .int .i64 p.x.K] 40)) (fun _ _ h => h))
        go_wp2
        go_roundw
        case rel => exact ⟨k + 1, j, B, d, hkn, by omega, by go_num, rfl, hid (by rw [htk2.out, hjl.out]), hid (by rw [htk2.out]; exact hO7.out), hC7.out⟩
        case measure => simp [intOf]; omega
    · have hd : decide ((k : Int) < (n : Int)) = false := decide_eq_false (by omega)
      have hall := hid (show ps.take k = ps from List.take_of_length_le (by rw [hlen.out]; exact hkn))
      rw [hall.out] at hO hjl
      have hfin := hid (lv_end HH.out hjl.out hO.out hchg)
      go_wp2
      go_ret
      exact hfin.out
set_option maxHeartbeats 8000000 in
set_option maxRecDepth 100000 in
theorem refLeaves_any (F : Nat → Prop) (A : Option Addr) (n c : Nat) (ps : List NP) (w : World) (H : NRow F w A n c ps) (hn : n ≤ 1000000) :
    Calls Try.prog 20 #[.slice A n c] w (LvAns F ps w) := by
  have HH := hid H
  have hle := H.row.le
  have hmx := H.row.max
  have hlen := hid H.len
  clear H
  go_enter Try.func20, Try.ntmps20
  go_wp2_with fail
  go_loopw [3, 4] (fun ov iv wr => LvInv w n ps ov iv wr) (fun _ iv _ => n - (intOf iv).toNat)
  case atStart => exact ⟨0, 0, none, 0, Nat.zero_le _, Nat.le_refl _, rfl, rfl, hid rfl, hid (World.ownsRow_nil _ _ _ _), Chg.refl _ _⟩
  case round =>
    obtain ⟨k, j, B, d, hk, hj, rfl, rfl, hjl, hO, hchg⟩ := hrel
    rcases Nat.lt_or_ge k n with hkn | hkn
    · obtain ⟨g, o, p, rfl, -, hgl, hp, -, -, c0, c1, c2, c3⟩ := (HH.out.calm hchg).four hkn
      have htk := hid (leavesP_take ps k (by rw [hlen.out]; exact hkn))
      rw [← hp] at htk
      replace hp := hid hp
      have hk0 : (0 : Int) ≤ (k : Int) := by omega
      have hkn' : (k : Int) < (n : Int) := by omega
      have hsz := hid hchg.size
      by_cases h1 : p.x.kind = 1
      · have hb : (p.x.kind == 1) = true := beq_iff_eq.2 h1
        have htk2 := hid (show leavesP (ps.take (k + 1)) = leavesP (ps.take k) ++ [toLP p] from by rw [htk.out, if_pos h1])
        replace h1 := hid h1
        go_wp2_with (at_builtin; (refine append_cells (w := wr) rfl _ _ 31 rfl w.heap.size 36 (.agg #[.slice none 0 0, .int .i64 0]) 2 32 Try.underlying31 infoLf rfl (by decide) B d j _ rfl hO.out (lfL (toLP p)) rfl rfl (lfL_one _) ?_ ?_ ?_ ?_))
        · omega
        · omega
        · have := hsz.out; omega
        intro B' d' w6 hown6 hc6 hA
        have hown7 := hid hown6
        have hC7 := hid (hchg.then hc6 (fun k hk h => by have := own_of hO.out _ h; omega))
        clear hown6 hc6 hA hchg c0 c1 c2 c3
        go_wp2
        go_roundw
        case rel => exact ⟨k + 1, j + 1, B', d', hkn, by omega, by go_num, rfl, hid (by rw [htk2.out, List.length_append, hjl.out]; rfl), hid (by rw [htk2.out, List.flatMap_append]; simpa using hown7.out), hC7.out⟩
        case measure => simp [intOf]; omega
      · have hb : (p.x.kind == 1) = false := beq_eq_false_iff_ne.2 h1
        have htk2 := hid (show leavesP (ps.take (k + 1)) = leavesP (ps.take k) from by rw [htk.out, if_neg h1])
        replace h1 := hid h1
        go_wp2
        go_roundw
        case rel => exact ⟨k + 1, j, B, d, hkn, by omega, by go_num, rfl, hid (by rw [htk2.out, hjl.out]), hid (by rw [htk2.out]; exact hO.out), hchg⟩
        case measure => simp [intOf]; omega
    · have hd : decide ((k : Int) < (n : Int)) = false := decide_eq_false (by omega)
      have hall := hid (show ps.take k = ps from List.take_of_length_le (by rw [hlen.out]; exact hkn))
      rw [hall.out] at hO hjl
      have hfin := hid (lv_end HH.out hjl.out hO.out hchg)
      go_wp2
      go_ret
      exact hfin.out
def longL (qs : List LP) : Nat := qs.foldl (fun m q => max m q.p.length) 0
theorem longL_take (qs : List LP) (k : Nat) (h : k < qs.length) : longL (qs.take (k + 1)) = max (longL (qs.take k)) (qs.getD k lp0).p.length := by
  unfold longL
  rw [List.take_succ_eq_append_getElem h, List.foldl_append]
  simp [h]
def LgInv (w : World) (n : Nat) (qs : List LP) (ov iv : Value) (wr : World) : Prop := ∃ (k m : Nat), k ≤ n ∧ iv = .int .i64 k ∧ ov = .int .i64 m ∧ Hid (m = longL (qs.take k)) ∧ m ≤ 9223372036854775807 ∧ Chg Nothing w wr
set_option maxHeartbeats 8000000 in
set_option maxRecDepth 100000 in
theorem longest_any (F : Nat → Prop) (A : Option Addr) (n c : Nat) (ps : List NP) (w : World) (H : NRow F w A n c ps) (hn : n ≤ 1000000) :
    Calls Try.prog 22 #[.slice A n c] w fun e w' => e = .returned (.int .i64 (longL (leavesP ps) : Nat)) ∧ Chg Nothing w w' := by
  have HH := hid H
  clear H
  go_enter Try.func22, Try.ntmps22
  go_wp2_with fail
  refine (leaves_any F A n c ps _ HH.out hn).mono ?_
  rintro e w1 ⟨B, j, d, rfl, hL, -, hc1⟩
  have hLL := hid hL
  have hle := hL.row.le
  have hmx := hL.row.max
  have hlen := hid hL.len
  have hC1 := hid hc1
  clear hL hc1
  go_wp2_with fail
  go_loopw [3, 9] (fun ov iv wr => LgInv w1 j (leavesP ps) ov iv wr) (fun _ iv _ => j - (intOf iv).toNat)
  case atStart => exact ⟨0, 0, Nat.zero_le _, rfl, rfl, hid rfl, by decide, Chg.refl _ _⟩
  case round =>
    obtain ⟨k, m, hk, rfl, rfl, hm, hm63, hchg⟩ := hrel
    rcases Nat.lt_or_ge k j with hkn | hkn
    · obtain ⟨g, o, q, rfl, -, hgl, hq, -, hqr, c0, c1⟩ := (hLL.out.calm hchg).two hkn
      have htk := hid (longL_take (leavesP ps) k (by rw [hlen.out]; exact hkn))
      rw [← hq] at htk
      have hql := hid hqr.len
      have hq63 : q.l ≤ 9223372036854775807 := by have h1 := hqr.row.le; have h2 := hqr.row.max; omega
      replace hq := hid hq
      clear hqr
      have hk0 : (0 : Int) ≤ (k : Int) := by omega
      have hkn' : (k : Int) < (j : Int) := by omega
      have hC7 := hid (hchg.alloc (.cells #[.slice q.A q.l q.c, .int .i64 q.K] 36))
      rcases Nat.lt_or_ge m q.l with hlt | hge
      · have hmx2 : max (m : Int) (q.l : Int) = (q.l : Int) := by omega
        have hnew := hid (show q.l = longL ((leavesP ps).take (k + 1)) from by rw [htk.out, ← hm.out, hql.out]; omega)
        go_wp2
        go_roundw
        case rel => exact ⟨k + 1, q.l, hkn, by go_num, by first | rfl | exact congrArg (Value.int .i64) hmx2, hnew, hq63, hC7.out⟩
        case measure => simp [intOf]; omega
      · have hmx2 : max (m : Int) (q.l : Int) = (m : Int) := by omega
        have hnew := hid (show m = longL ((leavesP ps).take (k + 1)) from by rw [htk.out, ← hm.out, hql.out]; omega)
        go_wp2
        go_roundw
        case rel => exact ⟨k + 1, m, hkn, by go_num, by first | rfl | exact congrArg (Value.int .i64) hmx2, hnew, hm63, hC7.out⟩
        case measure => simp [intOf]; omega
    · have hd : decide ((k : Int) < (j : Int)) = false := decide_eq_false (by omega)
      have hall := hid (show m = longL (leavesP ps) from by have := hm.out; rwa [List.take_of_length_le (by rw [hlen.out]; exact hkn)] at this)
      go_wp2
      go_ret
      exact ⟨by rw [← hall.out]; rfl, hC1.out.trans hchg⟩
theorem longL_snoc (qs : List LP) (q : LP) : longL (qs ++ [q]) = max (longL qs) q.p.length := by unfold longL; rw [List.foldl_append]; rfl
set_option maxHeartbeats 8000000 in
set_option maxRecDepth 100000 in
theorem refLongest_any (F : Nat → Prop) (A : Option Addr) (n c : Nat) (ps : List NP) (w : World) (H : NRow F w A n c ps) (hn : n ≤ 1000000) :
    Calls Try.prog 23 #[.slice A n c] w fun e w' => e = .returned (.int .i64 (longL (leavesP ps) : Nat)) ∧ Chg Nothing w w' := by
  have HH := hid H
  have hle := H.row.le
  have hmx := H.row.max
  have hlen := hid H.len
  clear H
  go_enter Try.func23, Try.ntmps23
  go_wp2_with fail
  go_loopw [3, 4] (fun ov iv wr => ∃ (k m : Nat), k ≤ n ∧ iv = .int .i64 k ∧ ov = .int .i64 m ∧ Hid (m = longL (leavesP (ps.take k))) ∧ m ≤ 9223372036854775807 ∧ Chg Nothing w wr) (fun _ iv _ => n - (intOf iv).toNat)
  case atStart => exact ⟨0, 0, Nat.zero_le _, rfl, rfl, hid rfl, by decide, Chg.refl _ _⟩
  case round =>
    obtain ⟨k, m, hk, rfl, rfl, hm, hm63, hchg⟩ := hrel
    rcases Nat.lt_or_ge k n with hkn | hkn
    · obtain ⟨g, o, p, rfl, -, hgl, hp, -, hpr, c0, c1, c2, c3⟩ := (HH.out.calm hchg).four hkn
      have htk := hid (leavesP_take ps k (by rw [hlen.out]; exact hkn))
      rw [← hp] at htk
      have hql := hid hpr.len
      have hq63 : p.l ≤ 9223372036854775807 := by have h1 := hpr.row.le; have h2 := hpr.row.max; omega
      replace hp := hid hp
      clear hpr
      have hk0 : (0 : Int) ≤ (k : Int) := by omega
      have hkn' : (k : Int) < (n : Int) := by omega
      by_cases h1 : p.x.kind = 1
      · have hb : (p.x.kind == 1) = true := beq_iff_eq.2 h1
        have htk2 := hid (show longL (leavesP (ps.take (k + 1))) = max (longL (leavesP (ps.take k))) p.l from by rw [htk.out, if_pos h1, longL_snoc, ← hql.out]; rfl)
        replace h1 := hid h1
        rcases Nat.lt_or_ge m p.l with hlt | hge
        · have hlt' : (m : Int) < (p.l : Int) := by omega
          have hnew := hid (show p.l = longL (leavesP (ps.take (k + 1))) from by rw [htk2.out, ← hm.out]; omega)
          go_wp2_with fail
          try go_quiet (fail)
          go_wp2
          go_roundw
          case rel => exact ⟨k + 1, p.l, hkn, by go_num, rfl, hnew, hq63, hchg⟩
          case measure => simp [intOf]; omega
        · have hlt' : ¬ (m : Int) < (p.l : Int) := by omega
          have hnew := hid (show m = longL (leavesP (ps.take (k + 1))) from by rw [htk2.out, ← hm.out]; omega)
          go_wp2_with fail
          try go_quiet (fail)
          go_wp2
          go_roundw
          case rel => exact ⟨k + 1, m, hkn, by go_num, rfl, hnew, hm63, hchg⟩
          case measure => simp [intOf]; omega
      · have hb : (p.x.kind == 1) = false := beq_eq_false_iff_ne.2 h1
        have hnew := hid (show m = longL (leavesP (ps.take (k + 1))) from by rw [htk.out, if_neg h1]; exact hm.out)
        replace h1 := hid h1
        go_wp2_with fail
        try go_quiet (fail)
        go_wp2
        go_roundw
        case rel => exact ⟨k + 1, m, hkn, by go_num, rfl, hnew, hm63, hchg⟩
        case measure => simp [intOf]; omega
    · have hd : decide ((k : Int) < (n : Int)) = false := decide_eq_false (by omega)
      have hall := hid (show m = longL (leavesP ps) from by have := hm.out; rwa [List.take_of_length_le (by rw [hlen.out]; exact hkn)] at this)
      go_wp2
      go_ret
      exact ⟨by rw [← hall.out]; rfl, hchg⟩
end Go.Proofs.Ytllblpiakijpaaa

/- Layer 14: the document's Same. -/
namespace Go.Proofs.Ytllblpiakijpaaa
open Go.RowKit
set_option linter.unusedVariables false
attribute [local go_sem ↓] Go.wp_at_zero Go.wp_at_succ
set_option maxHeartbeats 4000000 in
theorem refLeafSame_any (F G : Nat → Prop) (A : Option Addr) (n c : Nat) (xs : List Cls) (K : Int) (B : Option Addr) (m d : Nat) (ys : List Cls) (J : Int) (w : World) (HA : ClsRow F w A n c xs) (hl : xs.length = n) (HB : ClsRow G w B m d ys) (hm : ys.length = m) :
    Calls Try.prog 21 #[.agg #[.slice A n c, .int .i64 K], .agg #[.slice B m d, .int .i64 J]] w fun e w' => e = .returned (.bool (leafEq xs K ys J)) ∧ Chg Nothing w w' := by
  have hX := Blk.new w #[.slice A n c, .int .i64 K] 36
  have hX2 := hX.alloc (.cells #[.slice B m d, .int .i64 J] 36)
  have x0 := hX2.cell 0 rfl
  have x1 := hX2.cell 1 rfl
  have hY := Blk.new (w.alloc (.cells #[.slice A n c, .int .i64 K] 36)) #[.slice B m d, .int .i64 J] 36
  have y0 := hY.cell 0 rfl
  have y1 := hY.cell 1 rfl
  rw [World.size_alloc] at y0 y1
  have hc := ((Chg.refl Nothing w).alloc (.cells #[.slice A n c, .int .i64 K] 36)).alloc (.cells #[.slice B m d, .int .i64 J] 36)
  have HA' := hid (HA.chg hc (fun _ _ _ h => h))
  have HB' := hid (HB.chg hc (fun _ _ _ h => h))
  have hC := hid hc
  have hlh := hid hl
  have hmh := hid hm
  clear HA HB hl hm hX hX2 hY hc
  unfold leafEq
  by_cases hKJ : K = J
  · have e := hid (show (decide (K = J) && decide (xs = ys)) = decide (xs = ys) from by rw [decide_eq_true hKJ]; rfl)
    rw [e.out]
    subst hKJ
    go_enter Try.func21, Try.ntmps21
    go_wp2_with fail
    refine (refClasses_any F G A n c xs B m d ys _ HA'.out hlh.out HB'.out hmh.out).mono ?_
    rintro e w1 ⟨rfl, hc1⟩
    go_wp2
    go_ret
    exact ⟨rfl, hC.out.trans hc1⟩
  · have e := hid (show (decide (K = J) && decide (xs = ys)) = false from by rw [decide_eq_false hKJ]; rfl)
    rw [e.out]
    have hb : (K == J) = false := beq_eq_false_iff_ne.2 hKJ
    replace hKJ := hid hKJ
    go_enter Try.func21, Try.ntmps21
    go_wp2
    go_ret
    exact ⟨rfl, hC.out⟩
theorem four_calm {w : World} {g o : Nat} {v0 v1 v2 v3 : Value} (hg : g < w.heap.size) (c0 : w.cell? ⟨g, o, none⟩ = some v0) (c1 : w.cell? ⟨g, o + 1, none⟩ = some v1) (c2 : w.cell? ⟨g, o + 2, none⟩ = some v2) (c3 : w.cell? ⟨g, o + 3, none⟩ = some v3) :
    (∀ n : Calm w, n.val.cell? ⟨g, o, none⟩ = some v0) ∧ (∀ n : Calm w, n.val.cell? ⟨g, o + 1, none⟩ = some v1) ∧ (∀ n : Calm w, n.val.cell? ⟨g, o + 2, none⟩ = some v2) ∧ (∀ n : Calm w, n.val.cell? ⟨g, o + 3, none⟩ = some v3) ∧ (∀ n : Calm w, n.val.cell? ⟨g, o + 2 + 1, none⟩ = some v3) :=
  ⟨Calm.cell hg c0, Calm.cell hg c1, Calm.cell hg c2, Calm.cell hg c3, Calm.cell hg c3⟩
set_option maxHeartbeats 16000000 in
set_option maxRecDepth 100000 in
theorem refSame14_any (F G : Nat → Prop) (A : Option Addr) (n c : Nat) (ps : List NP) (B : Option Addr) (m d : Nat) (qs : List NP) (w : World) (HA : NRow F w A n c ps) (HB : NRow G w B m d qs) :
    Calls Try.prog 13 #[.slice A n c, .slice B m d] w fun e w' => e = .returned (.bool (sameN (ps.map NP.x) (qs.map NP.x))) ∧ Chg Nothing w w' := by
  have HA' := hid HA
  have HB' := hid HB
  have hla := HA.row.le
  have hxa := HA.row.max
  have hlb := HB.row.le
  have hxb := HB.row.max
  have hlh := hid HA.len
  have hmh := hid HB.len
  clear HA HB
  by_cases hnm : n = m
  · subst hnm
    go_enter Try.func13, Try.ntmps13
    go_wp2_with fail
    go_loopw [5] (fun iv wr => EfInv n (ps.map NP.x) (qs.map NP.x) w iv wr) (fun iv _ => n - (intOf iv).toNat)
    case atStart => exact ⟨0, Nat.zero_le _, rfl, hid rfl, Chg.refl _ _⟩
    case round =>
      obtain ⟨k, hk, rfl, heq, hchg⟩ := hrel
      rcases Nat.lt_or_ge k n with hkn | hkn
      · obtain ⟨g, o, p, rfl, -, hgl, hp, -, hpr, c0, c1, c2, c3⟩ := (HA'.out.calm hchg).four hkn
        obtain ⟨g2, o2, q, rfl, -, hgl2, hq, -, hqr, d0, d1, d2, d3⟩ := (HB'.out.calm hchg).four hkn
        have htp := hid (take_nd (ps := ps) (k := k) (by rw [hlh.out]; exact hkn))
        have htq := hid (take_nd (ps := qs) (k := k) (by rw [hmh.out]; exact hkn))
        rw [← hp] at htp
        rw [← hq] at htq
        have hdp := hid (show ∀ (h : ps.map NP.x = qs.map NP.x), p.x = q.x from fun h => by
          have := congrArg (fun l => l.getD k np0.x) h
          simp only [List.getD_eq_getElem?_getD, List.getElem?_map] at this
          have h1 : k < ps.length := by rw [hlh.out]; exact hkn
          have h2 : k < qs.length := by rw [hmh.out]; exact hkn
          rw [hp, hq]
          simpa [h1, h2] using this)
        replace hp := hid hp
        replace hq := hid hq
        have hcl := hid (fun (n : Calm wr) => refLeafSame_any F G p.A p.l p.c p.x.p p.x.K q.A q.l q.c q.x.p q.x.K n.val (hpr.chg n.chg (fun _ _ _ h => h)).row hpr.len (hqr.chg n.chg (fun _ _ _ h => h)).row hqr.len)
        obtain ⟨u0, u1, u2, u3, u3'⟩ := four_calm hgl c0 c1 c2 c3
        obtain ⟨v0, v1, v2, v3, v3'⟩ := four_calm hgl2 d0 d1 d2 d3
        clear hpr hqr c0 c1 c2 c3 d0 d1 d2 d3 hgl hgl2
        have hk0 : (0 : Int) ≤ (k : Int) := by omega
        have hkn' : (k : Int) < (n : Int) := by omega
        by_cases h1 : p.x.kind = q.x.kind
        · have b1 : (p.x.kind != q.x.kind) = false := by rw [bne_eq_false_iff_eq]; exact h1
          by_cases h2 : p.x.n = q.x.n
          · have b2 : (p.x.n != q.x.n) = false := by rw [bne_eq_false_iff_eq]; exact h2
            by_cases h3 : p.x.K = q.x.K ∧ p.x.p = q.x.p
            · have hcl2 := hid (fun (n : Calm wr) => by have := hcl.out n; rw [show leafEq p.x.p p.x.K q.x.p q.x.K = true from by unfold leafEq; rw [decide_eq_true h3.1, decide_eq_true h3.2]; rfl] at this; exact this)
              have he : p.x = q.x := (ndEq_iff _ _).1 (by unfold ndEq leafEq; rw [decide_eq_true h1, decide_eq_true h2, decide_eq_true h3.1, decide_eq_true h3.2]; rfl)
              have hnx := hid (show (ps.map NP.x).take (k + 1) = (qs.map NP.x).take (k + 1) from by rw [htp.out, htq.out, heq.out, he])
              replace h1 := hid h1
              replace h2 := hid h2
              replace h3 := hid h3
              replace he := hid he
              go_wp2_with fail
              try simp only [List.append_eq, List.cons_append, List.nil_append]
              refine wp_region_calm_lit (by kernel_rfl) (by kernel_rfl) ?_
              repeat (go_big_quiet_step (((go_at_call 21; exact calm_of (hcl2.out _)))))
              refine wpQuiet_nil ?_
              intro _ hw'
              obtain ⟨nq, hw''⟩ := hw'
              subst hw''
              go_wp2
              go_roundw
              case rel => exact ⟨k + 1, hkn, by go_num, hnx, hchg.trans nq.chg⟩
              case measure => simp [intOf]; omega
            · have hcl2 := hid (fun (n : Calm wr) => by have := hcl.out n; rw [show leafEq p.x.p p.x.K q.x.p q.x.K = false from by rw [Bool.eq_false_iff]; intro h; unfold leafEq at h; simp only [Bool.and_eq_true, decide_eq_true_eq] at h; exact h3 h] at this; exact this)
              have hne := hid (show sameN (ps.map NP.x) (qs.map NP.x) = false from sameN_no (fun h => h3 (by rw [hdp.out h]; exact ⟨rfl, rfl⟩)))
              replace h1 := hid h1
              replace h2 := hid h2
              replace h3 := hid h3
              go_wp2_with fail
              try simp only [List.append_eq, List.cons_append, List.nil_append]
              refine wp_region_calm_lit (by kernel_rfl) (by kernel_rfl) ?_
              repeat (go_big_quiet_step (((go_at_call 21; exact calm_of (hcl2.out _)))))
              refine wpQuiet_nil ?_
              intro _ hw'
              obtain ⟨nq, hw''⟩ := hw'
              subst hw''
              go_wp2
              go_ret
              exact ⟨by rw [hne.out]; rfl, hchg.trans nq.chg⟩
          · have b2 : (p.x.n != q.x.n) = true := by rw [bne_iff_ne]; exact h2
            have hne := hid (show sameN (ps.map NP.x) (qs.map NP.x) = false from sameN_no (fun h => h2 (by rw [hdp.out h])))
            replace h1 := hid h1
            replace h2 := hid h2
            go_wp2_with fail
            try simp only [List.append_eq, List.cons_append, List.nil_append]
            refine wp_region_calm_lit (by kernel_rfl) (by kernel_rfl) ?_
            repeat (go_big_quiet_step (((fail))))
            refine wpQuiet_nil ?_
            intro _ hw'
            obtain ⟨nq, hw''⟩ := hw'
            subst hw''
            go_wp2
            go_ret
            exact ⟨by rw [hne.out]; rfl, hchg.trans nq.chg⟩
        · have b1 : (p.x.kind != q.x.kind) = true := by rw [bne_iff_ne]; exact h1
          have hne := hid (show sameN (ps.map NP.x) (qs.map NP.x) = false from sameN_no (fun h => h1 (by rw [hdp.out h])))
          replace h1 := hid h1
          go_wp2_with fail
          try simp only [List.append_eq, List.cons_append, List.nil_append]
          refine wp_region_calm_lit (by kernel_rfl) (by kernel_rfl) ?_
          repeat (go_big_quiet_step (((fail))))
          refine wpQuiet_nil ?_
          intro _ hw'
          obtain ⟨nq, hw''⟩ := hw'
          subst hw''
          go_wp2
          go_ret
          exact ⟨by rw [hne.out]; rfl, hchg.trans nq.chg⟩
      · have hd : decide ((k : Int) < (n : Int)) = false := decide_eq_false (by omega)
        have hyes := hid (show sameN (ps.map NP.x) (qs.map NP.x) = true from (sameN_iff _ _).2 (by
          have h := heq.out
          rwa [List.take_of_length_le (by rw [List.length_map, hlh.out]; exact hkn), List.take_of_length_le (by rw [List.length_map, hmh.out]; exact hkn)] at h))
        go_wp2
        go_ret
        exact ⟨by rw [hyes.out]; rfl, hchg⟩
  · have hd : ((n : Int) != (m : Int)) = true := by rw [bne_iff_ne]; omega
    have hne := hid (show sameN (ps.map NP.x) (qs.map NP.x) = false from sameN_no (fun e => hnm (by
      have := congrArg List.length e
      rwa [List.length_map, List.length_map, hlh.out, hmh.out] at this)))
    replace hnm := hid hnm
    go_enter Try.func13, Try.ntmps13
    go_wp2
    go_ret
    exact ⟨by rw [hne.out]; rfl, Chg.refl _ _⟩
end Go.Proofs.Ytllblpiakijpaaa
