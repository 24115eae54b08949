/- Joined texts: QryI QryJ QryK QryL QryM QryN QryO QryU. -/
import Derived.Test.YtllblpiakijpaaaBunI
import Derived.Test.YtllblpiakijpaaaBunH
import Derived.Test.YtllblpiakijpaaaBunB
import Derived.Lib.AppendZeros
/- Layer 14: the parser's box: next, fails. -/
namespace Go.Proofs.Ytllblpiakijpaaa
open Go.RowKit
set_option linter.unusedVariables false
attribute [local go_sem ↓] Go.wp_at_zero Go.wp_at_succ
theorem TRead.cut {F : Nat → Prop} {w : World} {A : Option Addr} {n c : Nat} {ps qs rs : List TP} (h : TRead F w A n c (ps ++ qs ++ rs)) : TRead F w (pieceA A ps.length c 4) qs.length (c - ps.length) qs := by
  have hl := h.len
  simp only [List.length_append] at hl
  refine ⟨rfl, ?_, fun p hp => h.els p (by simp [hp])⟩
  refine rowAt_cut (n := n) (m := qs.length) (vs := ps.flatMap tpL) (ws := rs.flatMap tpL) ?_ (flat_len tpL 4 tpL_len ps) (flat_len tpL 4 tpL_len qs) (by omega)
  have := h.row
  rwa [List.flatMap_append, List.flatMap_append] at this
theorem TRead.calm {F : Nat → Prop} {w w' : World} {A : Option Addr} {n c : Nat} {ps : List TP} (h : TRead F w A n c ps) (hc : Chg Nothing w w') : TRead F w' A n c ps := h.chg hc (fun _ _ _ h => h)
/-- The first token of a row. -/
theorem TRead.head {F : Nat → Prop} {w : World} {A : Option Addr} {n c : Nat} {p : TP} {ps : List TP} (h : TRead F w A n c (p :: ps)) :
    ∃ g o, A = some ⟨g, o, none⟩ ∧ g < w.heap.size ∧ 0 < n ∧ w.cell? ⟨g, o, none⟩ = some (.int .i64 p.t.kind) ∧ w.cell? ⟨g, o + 1, none⟩ = some (.int .i64 p.t.at_) ∧ w.cell? ⟨g, o + 2, none⟩ = some (.int .i64 p.t.n) ∧ w.cell? ⟨g, o + 3, none⟩ = some (.slice p.A p.l p.c) := by
  have hn : 0 < n := by have := h.len; simp at this; omega
  obtain ⟨g, o, e, -, hlt, c0, c1, c2, c3⟩ := rowAt_four h.row (d := tp0) tpL_len h.len hn
  rw [Nat.zero_mul, Nat.add_zero] at c0 c1 c2 c3
  exact ⟨g, o, e, hlt, hn, c0, c1, c2, c3⟩
theorem TRead.tail {F : Nat → Prop} {w : World} {A : Option Addr} {n c : Nat} {p : TP} {ps : List TP} (h : TRead F w A n c (p :: ps)) : TRead F w (pieceA A 1 c 4) (n - 1) (c - 1) ps := by
  have h2 : TRead F w A n c ([p] ++ ps ++ []) := by simpa using h
  have := h2.cut
  have hl := h.len
  simp only [List.length_cons] at hl
  rw [show n - 1 = ps.length from by omega]
  exact this
/-- The parser: its tokens, the length of the text, what is amiss. -/
abbrev PBox (w : World) (b : Nat) (A : Option Addr) (m c : Nat) (en at_ no : Int) : Prop := Blk w b #[.slice A m c, .int .i64 en, .int .i64 at_, .int .i64 no] 48
theorem elemTk : Try.prog.underlying 43 = some (.slice (Try.prog.elem 43)) := by kernel_rfl
theorem sizeTk : ∀ w, (sizeOf (Try.prog.elem 43)).run Try.prog w = .ok 4 w := fun w => by kernel_rfl
set_option maxHeartbeats 8000000 in
set_option maxRecDepth 100000 in
theorem next_no (b : Nat) (F : Nat → Prop) (A : Option Addr) (m c : Nat) (en at_ no k : Int) (qs : List TP) (w : World) (hB : PBox w b A m c en at_ no) (hT : TRead F w A m c qs) (hh : ∀ q r, qs = q :: r → (q.t.kind : Int) ≠ k) :
    Calls Try.prog 72 #[.pointer (some ⟨b, 0, none⟩), .int .i64 k] w fun e w' => e = .returned (.tuple #[.agg #[.int .i64 0, .int .i64 0, .int .i64 0, .slice none 0 0], .bool false]) ∧ Chg Nothing w w' := by
  have x0 := hB.cell 0 rfl
  have hbl := hB.lt
  have hle := hT.row.le
  have hmx := hT.row.max
  cases qs with
  | nil =>
    obtain rfl : m = 0 := by have := hT.len; simpa using this.symm
    clear hT hB hh
    go_enter Try.func72, Try.ntmps72
    go_wp2
    refine bodyPost_ret (v := .tuple #[.agg #[.int .i64 0, .int .i64 0, .int .i64 0, .slice none 0 0], .bool false]) (by simp [results, Try.results72, go_sem]) rfl ⟨rfl, ?_⟩
    repeat (first | exact Chg.refl _ _ | with_reducible apply Chg.alloc)
  | cons q r =>
    obtain ⟨g, o, rfl, hgl, hm0, c0, c1, c2, c3⟩ := hT.head
    have hne : ((q.t.kind : Int) != k) = true := by rw [bne_iff_ne]; exact hh q r rfl
    have hm0' : (0 : Int) < (m : Int) := by omega
    have hb0 : ((m : Int) == 0) = false := beq_eq_false_iff_ne.2 (by omega)
    clear hT hB hh c1 c2 c3
    go_enter Try.func72, Try.ntmps72
    go_wp2
    refine bodyPost_ret (v := .tuple #[.agg #[.int .i64 0, .int .i64 0, .int .i64 0, .slice none 0 0], .bool false]) (by simp [results, Try.results72, go_sem]) rfl ⟨rfl, ?_⟩
    repeat (first | exact Chg.refl _ _ | with_reducible apply Chg.alloc)
set_option maxHeartbeats 8000000 in
set_option maxRecDepth 100000 in
theorem next_yes (b : Nat) (F : Nat → Prop) (A : Option Addr) (m c : Nat) (en at_ no : Int) (k : Nat) (q : TP) (r : List TP) (w : World) (hB : PBox w b A m c en at_ no) (hT : TRead F w A m c (q :: r)) (hk : q.t.kind = k) :
    Calls Try.prog 72 #[.pointer (some ⟨b, 0, none⟩), .int .i64 k] w fun e w' => e = .returned (.tuple #[.agg #[.int .i64 q.t.kind, .int .i64 q.t.at_, .int .i64 q.t.n, .slice q.A q.l q.c], .bool true]) ∧ PBox w' b (pieceA A 1 c 4) (m - 1) (c - 1) en at_ no ∧ Chg (One b) w w' := by
  have x0 := hB.cell 0 rfl
  have f0 := hB.free 0
  have hbl := hB.lt
  have hle := hT.row.le
  have hmx := hT.row.max
  have HB := hid hB
  obtain ⟨g, o, rfl, hgl, hm0, c0, c1, c2, c3⟩ := hT.head
  have hne : ((q.t.kind : Int) != (k : Int)) = false := by rw [bne_eq_false_iff_eq]; omega
  have hm0' : (0 : Int) < (m : Int) := by omega
  have hb0 : ((m : Int) == 0) = false := beq_eq_false_iff_ne.2 (by omega)
  have hrun := run_from elemTk sizeTk (some ⟨g, o, none⟩) m c 1 1 rfl (by omega)
  have hkh := hid hk
  clear hT hB hk
  go_enter Try.func72, Try.ntmps72
  go_wp2
  refine bodyPost_ret (v := .tuple #[.agg #[.int .i64 q.t.kind, .int .i64 q.t.at_, .int .i64 q.t.n, .slice q.A q.l q.c], .bool true]) (by simp [results, Try.results72, go_sem]) rfl ⟨rfl, ?_, ?_⟩
  · exact ((HB.out.set 0 _).alloc _).alloc _
  · exact (((Chg.refl (One b) w).setOne 0 _).alloc _).alloc _
end Go.Proofs.Ytllblpiakijpaaa

/- Layer 14: slices.Grow, slices.Concat. -/
namespace Go.Proofs.Ytllblpiakijpaaa
open Go.RowKit
set_option linter.unusedVariables false
theorem infoNd : (Try.prog.info? 40).map (fun i => (i.zero, i.size, i.bytes)) = some (some (.agg #[.int .i64 0, .int .i64 0, .slice none 0 0, .int .i64 0]), 4, 48) := by kernel_rfl
theorem grow_run (w : World) (n : Nat) (h0 : 0 < n) (hn : n ≤ 1000000) (ty : TypeId) :
    (Builtin.append_ #[23, 3] ty #[.slice none 0 0, .int .i64 n]).run Try.prog w =
      .ok (.slice (some ⟨w.heap.size, 0, none⟩) n (grownCap w n 0 40)) (w.drew.alloc (.cells (Builtin.zeroCells (Value.agg #[.int .i64 0, .int .i64 0, .slice none 0 0, .int .i64 0]).cells n ++ Builtin.zeroCells (Value.agg #[.int .i64 0, .int .i64 0, .slice none 0 0, .int .i64 0]).cells (grownCap w n 0 40 - n)) 40)) := by
  obtain ⟨i, hi, hz, h4, h48⟩ := info_parts infoNd
  refine Lib.run_append_nil_zeros w _ _ ty _ i _ .i64 .i64 Try.underlying23 Try.underlying3 hi hz n h0 (by omega) (by omega) (by rw [h48]; omega)
set_option maxHeartbeats 8000000 in
set_option maxRecDepth 100000 in
theorem grow_any (n : Nat) (w : World) (hn : n ≤ 1000000) :
    Calls Try.prog 89 #[.slice none 0 0, .int .i64 n] w fun e w' => ∃ A c, e = .returned (.slice A 0 c) ∧ w'.ownsRow w.heap.size 40 4 (.slice A 0 c) 0 [] ∧ Chg Nothing w w' := by
  rcases Nat.eq_zero_or_pos n with rfl | h0
  · go_enter Try.func89, Try.ntmps89
    go_wp2
    go_ret
    exact ⟨none, 0, rfl, ⟨rfl, .inl ⟨rfl, rfl⟩⟩, Chg.refl _ _⟩
  · have hng : ((n : Int) < 0) = False := by simp
    have hgt : (0 : Int) < (n : Int) := by omega
    have hr := hid (grow_run w n h0 hn)
    have hge := grownCap_ge w n 0 40
    have hle := grownCap_le_maxLen w n 0 40 (by unfold maxLen; omega)
    go_enter Try.func89, Try.ntmps89
    go_wp2_with (at_builtin; refine Lib.wpList_append_run _ rfl _ _ _ _ rfl _ _ rfl rfl _ _ (hr.out _) ?_)
    generalize grownCap w n 0 40 = cap at hr hge hle ⊢
    refine bodyPost_ret (v := .slice (some ⟨w.heap.size, 0, none⟩) 0 cap) (by simp [results, Try.results89, go_sem]) rfl ⟨some ⟨w.heap.size, 0, none⟩, cap, rfl, ?_, ((Chg.refl Nothing w).alloc _).drew⟩
    exact own_chg (World.ownsRow_made w _ cap (Nat.le_refl _) hle (by rw [Array.size_append, size_zeroCells, size_zeroCells]; show n * 4 + (cap - n) * 4 = cap * 4; omega)) (Chg.refl Nothing _).drew (fun _ _ h => h)
theorem rowAt_news {sz : Nat} {F : Nat → Prop} {w : World} {A : Option Addr} {n c : Nat} {vs : List Value} (h : RowAt sz F w A n c vs) : ∀ ad, A = some ad → ∀ j u, vs[j]? = some u → w.cell? (ad.add j) = some u := by
  intro ad ha j u hj
  have hl := h.len
  obtain ⟨hjl, hju⟩ := List.getElem?_eq_some_iff.1 hj
  have hn : 0 < n := by
    rcases Nat.eq_zero_or_pos n with h0 | h0
    · subst h0; omega
    · exact h0
  obtain ⟨g, o, e, -, -, hc⟩ := h.cells hn
  rw [ha] at e; injection e with e; subst e
  rw [add_plain, hc j (by omega), List.getD_eq_getElem?_getD, hj]; rfl
theorem flat_one {α : Type} (f : α → List Value) (hf : ∀ x, ∀ u ∈ f x, u.oneCell' = true) (xs : List α) : ∀ u ∈ xs.flatMap f, u.oneCell' = true := by
  intro u hu
  obtain ⟨x, _, hx⟩ := List.mem_flatMap.1 hu
  exact hf x u hx
def CcA (n0 n1 n2 : Nat) (sv iv : Value) : Prop := (iv = .int .i64 0 ∧ sv = .int .i64 0) ∨ (iv = .int .i64 1 ∧ sv = .int .i64 n0) ∨ (iv = .int .i64 2 ∧ sv = .int .i64 ((n0 : Int) + n1)) ∨ (iv = .int .i64 3 ∧ sv = .int .i64 ((n0 + n1 + n2 : Nat) : Int))
def CcB (w0 w : World) (b0 : Nat) (v0 v1 v2 : List Value) (n0 n1 n2 : Nat) (iv sv : Value) : Prop := ∃ A c, (iv = .int .i64 0 ∧ sv = .slice A 0 c ∧ w.ownsRow b0 40 4 (.slice A 0 c) 0 []) ∨ (iv = .int .i64 1 ∧ sv = .slice A (n0) c ∧ w.ownsRow b0 40 4 (.slice A (n0) c) (n0) (v0)) ∨ (iv = .int .i64 2 ∧ sv = .slice A (n0 + n1) c ∧ w.ownsRow b0 40 4 (.slice A (n0 + n1) c) (n0 + n1) (v0 ++ v1)) ∨ (iv = .int .i64 3 ∧ sv = .slice A (n0 + n1 + n2) c ∧ w.ownsRow b0 40 4 (.slice A (n0 + n1 + n2) c) (n0 + n1 + n2) (v0 ++ (v1 ++ v2)))
set_option maxHeartbeats 8000000 in
set_option maxRecDepth 100000 in
theorem concat_any (F : Nat → Prop) (g : Nat) (T : TypeId) (A0 A1 A2 : Option Addr) (n0 n1 n2 c0 c1 c2 : Nat) (p0 p1 p2 : List NP) (w : World) (hB : Blk w g #[.slice A0 n0 c0, .slice A1 n1 c1, .slice A2 n2 c2] T) (H0 : NRow F w A0 n0 c0 p0) (H1 : NRow F w A1 n1 c1 p1) (H2 : NRow F w A2 n2 c2 p2) (hn : n0 + n1 + n2 ≤ 1000000) :
    Calls Try.prog 73 #[.slice (some ⟨g, 0, none⟩) 3 3] w fun e w' => ∃ A c, e = .returned (.slice A (n0 + n1 + n2) c) ∧ w'.ownsRow w.heap.size 40 4 (.slice A (n0 + n1 + n2) c) (n0 + n1 + n2) ((p0 ++ p1 ++ p2).flatMap ndL) ∧ Chg Nothing w w' := by
  have x0 := hB.cell 0 (v := .slice A0 n0 c0) rfl
  have x1 := hB.cell 1 (v := .slice A1 n1 c1) rfl
  have x2 := hB.cell 2 (v := .slice A2 n2 c2) rfl
  have hgl := hB.lt
  have G0 := hid H0.row
  have G1 := hid H1.row
  have G2 := hid H2.row
  have hBh := hid hB
  clear H0 H1 H2 hB
  go_enter Try.func73, Try.ntmps73
  go_wp2
  go_loopw [3, 11] (fun sv iv wr => CcA n0 n1 n2 sv iv ∧ Chg Nothing w wr) (fun _ iv _ => 3 - (intOf iv).toNat)
  case atStart => exact ⟨.inl ⟨rfl, rfl⟩, Chg.refl _ _⟩
  case round =>
    obtain ⟨hk, hchg⟩ := hrel
    have X := hBh.out.chg hchg (fun h => h)
    have y0 := X.cell 0 (v := .slice A0 n0 c0) rfl
    have y1 := X.cell 1 (v := .slice A1 n1 c1) rfl
    have y2 := X.cell 2 (v := .slice A2 n2 c2) rfl
    have hgl1 := X.lt
    clear X
    have q0 : ¬ ((0 : Int) + (n0 : Int) < 0) := by omega
    have q1 : ¬ ((n0 : Int) + (n1 : Int) < 0) := by omega
    have q2 : ¬ ((n0 : Int) + (n1 : Int) + (n2 : Int) < 0) := by omega
    rcases hk with ⟨rfl, rfl⟩ | ⟨rfl, rfl⟩ | ⟨rfl, rfl⟩ | ⟨rfl, rfl⟩
    · go_wp2
      go_roundw
      case rel => exact ⟨.inr (.inl ⟨by go_num, by go_num⟩), hchg⟩
      case measure => simp [intOf]
    · go_wp2
      go_roundw
      case rel => exact ⟨.inr (.inr (.inl ⟨by go_num, by go_num⟩)), hchg⟩
      case measure => simp [intOf]
    · go_wp2
      go_roundw
      case rel => exact ⟨.inr (.inr (.inr ⟨by go_num, by go_num⟩)), hchg⟩
      case measure => simp [intOf]
    · clear q0 q1 q2 y0 y1 y2 hgl1
      go_wp2_with fail
      refine (grow_any _ _ hn).mono ?_
      rintro e w1 ⟨A, c, rfl, hown, hc1⟩
      have hC1 := hid (hchg.trans hc1)
      have hown' := hid (own_base_less hown hchg.size)
      clear hown hc1 hchg
      have hs1 := hC1.out.size
      go_wp2
      go_loopw [6, 27] (fun sv iv wr => CcB w wr w.heap.size (p0.flatMap ndL) (p1.flatMap ndL) (p2.flatMap ndL) n0 n1 n2 iv sv ∧ Chg Nothing w wr) (fun _ iv _ => 3 - (intOf iv).toNat)
      case atStart => exact ⟨⟨A, c, .inl ⟨rfl, rfl, hown'.out⟩⟩, hC1.out⟩
      case round =>
        obtain ⟨⟨A, c, hk⟩, hcr⟩ := hrel
        have X := hBh.out.chg hcr (fun h => h)
        have y0 := X.cell 0 (v := .slice A0 n0 c0) rfl
        have y1 := X.cell 1 (v := .slice A1 n1 c1) rfl
        have y2 := X.cell 2 (v := .slice A2 n2 c2) rfl
        have hgl1 := X.lt
        have R0 := G0.out.chg hcr (fun _ _ _ h => h)
        have R1 := G1.out.chg hcr (fun _ _ _ h => h)
        have R2 := G2.out.chg hcr (fun _ _ _ h => h)
        have hs2 := hcr.size
        clear X
        rcases hk with ⟨rfl, rfl, hown⟩ | ⟨rfl, rfl, hown⟩ | ⟨rfl, rfl, hown⟩ | ⟨rfl, rfl, hown⟩
        · go_wp2_with (at_builtin; refine append_gen (o := ⟨some 33, _, _, _, _, _⟩) rfl _ _ 23 rfl w.heap.size 40 (.agg #[.int .i64 0, .int .i64 0, .slice none 0 0, .int .i64 0]) 4 48 Try.underlying23 infoNd rfl (by decide) A c (0) _ rfl hown A0 n0 c0 _ rfl R0.len R0.nil R0.le (rowAt_news R0) (flat_one ndL ndL_one _) ?_ ?_ ?_ ?_)
          · unfold maxLen; omega
          · omega
          · omega
          · intro A' c' w2 hown2 hc2 _ _
            have hcr2 : Chg Nothing w w2 := hcr.then hc2 (fun i hi h => by have := (own_of hown i h).1; omega)
            go_wp2
            go_roundw
            case rel => exact ⟨⟨A', c', .inr (.inl ⟨by go_num, rfl, hown2⟩)⟩, hcr2⟩
            case measure => simp [intOf]
        · go_wp2_with (at_builtin; refine append_gen (o := ⟨some 33, _, _, _, _, _⟩) rfl _ _ 23 rfl w.heap.size 40 (.agg #[.int .i64 0, .int .i64 0, .slice none 0 0, .int .i64 0]) 4 48 Try.underlying23 infoNd rfl (by decide) A c (n0) _ rfl hown A1 n1 c1 _ rfl R1.len R1.nil R1.le (rowAt_news R1) (flat_one ndL ndL_one _) ?_ ?_ ?_ ?_)
          · unfold maxLen; omega
          · omega
          · omega
          · intro A' c' w2 hown2 hc2 _ _
            have hcr2 : Chg Nothing w w2 := hcr.then hc2 (fun i hi h => by have := (own_of hown i h).1; omega)
            go_wp2
            go_roundw
            case rel => exact ⟨⟨A', c', .inr (.inr (.inl ⟨by go_num, rfl, hown2⟩))⟩, hcr2⟩
            case measure => simp [intOf]
        · go_wp2_with (at_builtin; refine append_gen (o := ⟨some 33, _, _, _, _, _⟩) rfl _ _ 23 rfl w.heap.size 40 (.agg #[.int .i64 0, .int .i64 0, .slice none 0 0, .int .i64 0]) 4 48 Try.underlying23 infoNd rfl (by decide) A c (n0 + n1) _ rfl hown A2 n2 c2 _ rfl R2.len R2.nil R2.le (rowAt_news R2) (flat_one ndL ndL_one _) ?_ ?_ ?_ ?_)
          · unfold maxLen; omega
          · omega
          · omega
          · intro A' c' w2 hown2 hc2 _ _
            have hcr2 : Chg Nothing w w2 := hcr.then hc2 (fun i hi h => by have := (own_of hown i h).1; omega)
            go_wp2
            go_roundw
            case rel => exact ⟨⟨A', c', .inr (.inr (.inr ⟨by go_num, rfl, hown2⟩))⟩, hcr2⟩
            case measure => simp [intOf]
        · have hfin := hid hown
          clear hown y0 y1 y2 R0 R1 R2 hgl1
          go_wp2
          refine bodyPost_ret (v := .slice A (n0 + n1 + n2) c) (by simp [results, Try.results73, go_sem]) rfl ⟨A, c, rfl, ?_, hcr⟩
          have := hfin.out
          rw [List.flatMap_append, List.flatMap_append, List.append_assoc]
          exact this
end Go.Proofs.Ytllblpiakijpaaa

/- Layer 14: the parser's state; next, fails, find. -/
namespace Go.Proofs.Ytllblpiakijpaaa
open Go.RowKit
set_option linter.unusedVariables false
/-- Tokens, and their elements, lie below the parser's box. -/
def NB (b : Nat) : Nat → Prop := fun k => k < b
theorem NB.no {b : Nat} {w : World} : ∀ k, k < w.heap.size → NB b k → ¬ One b k := fun k _ h h' => by unfold NB at h; unfold One at h'; omega
/-- The parser's state: the tokens that are left. -/
def PSt (w : World) (b : Nat) (en at_ no : Int) (ts : List Tok) : Prop := ∃ A m c qs, PBox w b A m c en at_ no ∧ TRead (NB b) w A m c qs ∧ qs.map TP.t = ts
theorem PSt.calm {w w' : World} {b : Nat} {en at_ no : Int} {ts : List Tok} (h : PSt w b en at_ no ts) (hc : Chg Nothing w w') : PSt w' b en at_ no ts := by
  obtain ⟨A, m, c, qs, h1, h2, h3⟩ := h
  exact ⟨A, m, c, qs, h1.chg hc id, h2.calm hc, h3⟩
theorem PSt.apart {S : Nat → Prop} {w w' : World} {b : Nat} {en at_ no : Int} {ts : List Tok} (h : PSt w b en at_ no ts) (hc : Chg S w w') (hcB : ∀ k, k < b → ¬ S k) (hcB' : ¬ S b) : PSt w' b en at_ no ts := by
  obtain ⟨A, m, c, qs, h1, h2, h3⟩ := h
  exact ⟨A, m, c, qs, h1.chg hc hcB', h2.chg hc (fun k _ hk => hcB k hk), h3⟩
/-- Nodes of one's own, in a row behind base; their elements lie below the parser's box. -/
structure NOwn (b base : Nat) (w : World) (A : Option Addr) (n c : Nat) (ps : List NP) : Prop where
  len : ps.length = n
  own : w.ownsRow base 40 4 (.slice A n c) n (ps.flatMap ndL)
  els : ∀ p ∈ ps, NRead (NB b) w p
theorem NOwn.keep {b base : Nat} {w w' : World} {A : Option Addr} {n c : Nat} {ps : List NP} (h : NOwn b base w A n c ps) (hb : b < base) (hc : Chg (One b) w w') : NOwn b base w' A n c ps :=
  ⟨h.len, own_chg h.own hc (fun k hk h1 => by have := (own_of h.own k hk).1; unfold One at h1; omega), fun p hp => (h.els p hp).chg hc NB.no⟩
theorem NOwn.calm {b base : Nat} {w w' : World} {A : Option Addr} {n c : Nat} {ps : List NP} (h : NOwn b base w A n c ps) (hc : Chg Nothing w w') : NOwn b base w' A n c ps :=
  ⟨h.len, own_chg h.own hc (fun _ _ h => h), fun p hp => (h.els p hp).chg hc (fun _ _ _ h => h)⟩
theorem NOwn.less {b base base' : Nat} {w : World} {A : Option Addr} {n c : Nat} {ps : List NP} (h : NOwn b base w A n c ps) (hb : base' ≤ base) : NOwn b base' w A n c ps := ⟨h.len, own_base_less h.own hb, h.els⟩
theorem NOwn.nil (b base : Nat) (w : World) : NOwn b base w none 0 0 [] := ⟨rfl, ⟨rfl, .inl ⟨rfl, rfl⟩⟩, fun p h => by simp at h⟩
theorem NOwn.row {b base : Nat} {w : World} {A : Option Addr} {n c : Nat} {ps : List NP} (h : NOwn b base w A n c ps) : NRow (fun _ => True) w A n c ps :=
  ⟨h.len, (RowAt.of_own h.own).mono (fun _ _ _ => trivial), fun p hp => ⟨(h.els p hp).row.mono (fun _ _ _ => trivial), (h.els p hp).len⟩⟩
def headAt (en : Int) : List Tok → Int
  | [] => en
  | t :: _ => t.at_
theorem nextS_no {b k : Nat} {en at_ no : Int} {ts : List Tok} {w : World} (H : PSt w b en at_ no ts) (hh : headNot k ts) :
    Calls Try.prog 72 #[.pointer (some ⟨b, 0, none⟩), .int .i64 k] w fun e w' => e = .returned (.tuple #[.agg #[.int .i64 0, .int .i64 0, .int .i64 0, .slice none 0 0], .bool false]) ∧ Chg Nothing w w' := by
  obtain ⟨A, m, c, qs, h1, h2, rfl⟩ := H
  exact next_no b _ A m c en at_ no k qs w h1 h2 (fun q r e h => hh q.t (r.map TP.t) (by rw [e]; rfl) (by omega))
theorem nextS_yes {b k : Nat} {en at_ no : Int} {t : Tok} {r : List Tok} {w : World} (H : PSt w b en at_ no (t :: r)) (hk : t.kind = k) :
    Calls Try.prog 72 #[.pointer (some ⟨b, 0, none⟩), .int .i64 k] w fun e w' => ∃ A l c, e = .returned (.tuple #[.agg #[.int .i64 k, .int .i64 t.at_, .int .i64 t.n, .slice A l c], .bool true]) ∧ ClsRow (NB b) w' A l c t.p ∧ t.p.length = l ∧ PSt w' b en at_ no r ∧ Chg (One b) w w' := by
  obtain ⟨A, m, c, qs, h1, h2, h3⟩ := H
  cases qs with
  | nil => cases h3
  | cons q qs =>
    injection h3 with h3 h4
    subst h3 h4
    refine (next_yes b _ A m c en at_ no k q qs w h1 h2 hk).mono ?_
    rintro e w' ⟨rfl, hb, hc⟩
    have hq := h2.els q (by simp)
    refine ⟨q.A, q.l, q.c, by rw [hk], hq.row.chg hc NB.no, hq.len, ⟨_, _, _, qs, hb, h2.tail.chg hc NB.no, rfl⟩, hc⟩
set_option maxHeartbeats 8000000 in
set_option maxRecDepth 100000 in
theorem fails_first {b : Nat} {en at_ : Int} {ts : List Tok} {w : World} (H : PSt w b en at_ 0 ts) :
    Calls Try.prog 30 #[.pointer (some ⟨b, 0, none⟩)] w fun e w' => e = .returned (.slice none 0 0) ∧ PSt w' b en (headAt en ts) 140 ts ∧ Chg (One b) w w' := by
  obtain ⟨A, m, c, qs, hB, hT, rfl⟩ := H
  have x0 := hB.cell 0 (v := .slice A m c) rfl
  have x1 := hB.cell 1 (v := .int .i64 en) rfl
  have x2 := hB.cell 2 (v := .int .i64 at_) rfl
  have x3 := hB.cell 3 (v := .int .i64 0) rfl
  have f2 := hB.free 2
  have f3 := hB.free 3
  have hbl := hB.lt
  have HB := hid hB
  have HT := hid hT
  cases qs with
  | nil =>
    obtain rfl : m = 0 := by have := hT.len; simpa using this.symm
    clear hT hB
    go_enter Try.func30, Try.ntmps30
    go_wp2
    refine bodyPost_ret (v := .slice none 0 0) (by simp [results, Try.results30, go_sem]) rfl ⟨rfl, ⟨A, 0, c, [], (HB.out.set 2 _).set 3 _, HT.out.chg (((Chg.refl (One b) w).setOne 2 _).setOne 3 _) NB.no, rfl⟩, ((Chg.refl (One b) w).setOne 2 _).setOne 3 _⟩
  | cons q r =>
    obtain ⟨g, o, rfl, hgl, hm0, c0, c1, c2, c3⟩ := hT.head
    have hgb : g ≠ b := by
      obtain ⟨g', o', e, hF, -⟩ := hT.row.cells hm0
      injection e with e; injection e with e; subst e
      unfold NB at hF; omega
    have hgb' : b ≠ g := fun h => hgb h.symm
    have hm0' : (0 : Int) < (m : Int) := by omega
    have hgt : ¬ ((m : Int) ≤ 0) := by omega
    clear hT hB
    go_enter Try.func30, Try.ntmps30
    go_wp2
    refine bodyPost_ret (v := .slice none 0 0) (by simp [results, Try.results30, go_sem]) rfl ⟨rfl, ⟨some ⟨g, o, none⟩, m, c, q :: r, ((HB.out.set 2 _).set 3 _).set 2 _, HT.out.chg ((((Chg.refl (One b) w).setOne 2 _).setOne 3 _).setOne 2 _) NB.no, rfl⟩, (((Chg.refl (One b) w).setOne 2 _).setOne 3 _).setOne 2 _⟩
theorem fails_again {b : Nat} {en at_ : Int} {ts : List Tok} {w : World} (H : PSt w b en at_ 140 ts) :
    Calls Try.prog 30 #[.pointer (some ⟨b, 0, none⟩)] w fun e w' => e = .returned (.slice none 0 0) ∧ Chg Nothing w w' := by
  obtain ⟨A, m, c, qs, hB, hT, rfl⟩ := H
  have x3 := hB.cell 3 (v := .int .i64 140) rfl
  have hbl := hB.lt
  clear hB hT
  go_enter Try.func30, Try.ntmps30
  go_wp2
  go_ret
  exact ⟨rfl, Chg.refl _ _⟩
end Go.Proofs.Ytllblpiakijpaaa

/- Layer 14: the parser's find; what each part answers. -/
namespace Go.Proofs.Ytllblpiakijpaaa
open Go.RowKit
set_option linter.unusedVariables false
/-- What a part of the parser answers, of N tokens. -/
def PAns (b base : Nat) (en at_ : Int) (N : Nat) (R : PR) (e : Ending) (w' : World) : Prop := ∃ A n c ps at' no' ts', e = .returned (.slice A n c) ∧ NOwn b base w' A n c ps ∧ n ≤ N ∧ PSt w' b en at' no' ts' ∧ ts'.length ≤ N ∧ (∀ L q, R = .ok L q → no' = 0 ∧ at' = at_ ∧ ts' = q ∧ ps.map NP.x = L) ∧ (∀ q, R = .bad q → no' = 140 ∧ at' = headAt en q)
theorem nown_one {b : Nat} {W : World} (p : NP) (h : NRead (NB b) W p) : NOwn b W.heap.size (W.alloc (.cells #[.int .i64 p.x.kind, .int .i64 p.x.n, .slice p.A p.l p.c, .int .i64 p.x.K] 40)) (some ⟨W.heap.size, 0, none⟩) 1 1 [p] := by
  have e : [p].flatMap ndL = ndL p := by rw [List.flatMap_cons, List.flatMap_nil, List.append_nil]
  refine ⟨rfl, ?_, fun q hq => ?_⟩
  · rw [e]
    exact ⟨rfl, .inr ⟨W.heap.size, 1, _, rfl, Nat.le_refl _, heap_alloc_new W _, Nat.le_refl _, by unfold maxLen; omega, rfl, rfl⟩⟩
  · rw [List.mem_singleton] at hq
    subst hq
    exact h.chg ((Chg.refl Nothing W).alloc _) (fun _ _ _ h => h)
theorem PAns.less {b base base' N : Nat} {en at_ : Int} {R : PR} {e : Ending} {w : World} (h : PAns b base en at_ N R e w) (hb : base' ≤ base) : PAns b base' en at_ N R e w := by
  obtain ⟨A, n, c, ps, at', no', ts', h1, h2, h3⟩ := h
  exact ⟨A, n, c, ps, at', no', ts', h1, h2.less hb, h3⟩
/-- What a find is to answer. -/
def findR (p : List Cls) : List Tok → PR
  | [] => .ok [⟨1, 0, p, 0⟩] []
  | u :: r => if u.kind = 7 then (if 64 < u.n then .bad (u :: r) else .ok [⟨1, 0, p, u.n⟩] r) else .ok [⟨1, 0, p, 0⟩] (u :: r)
theorem find_tail {b N : Nat} {en at_ : Int} {ts : List Tok} {w W : World} (o : Obj) {A : Option Addr} {l c : Nat} {p : List Cls} {K : Int} {e : Ending} (HS : PSt W b en at_ 0 ts) (HP : ClsRow (NB b) W A l c p) (hl : p.length = l) (hC : Chg (One b) w W) (hN : ts.length + 1 ≤ N) (he : e = .returned (.slice (some ⟨W.heap.size + 1, 0, none⟩) 1 1)) :
    PAns b w.heap.size en at_ N (.ok [⟨1, 0, p, K⟩] ts) e ((W.alloc o).alloc (.cells #[.int .i64 1, .int .i64 0, .slice A l c, .int .i64 K] 40)) ∧ Chg (One b) w ((W.alloc o).alloc (.cells #[.int .i64 1, .int .i64 0, .slice A l c, .int .i64 K] 40)) := by
  have hb : b < W.heap.size := by obtain ⟨_, _, _, _, h1, _⟩ := HS; exact h1.lt
  have h1 := (Chg.refl Nothing W).alloc o
  have hr := (nown_one (b := b) (W := W.alloc o) ⟨⟨1, 0, p, K⟩, A, l, c⟩ ⟨HP.chg h1 (fun _ _ _ h => h), hl⟩).less (base' := w.heap.size) (by rw [World.size_alloc]; have := hC.size; omega)
  rw [World.size_alloc] at hr
  refine ⟨⟨_, 1, 1, [⟨⟨1, 0, p, K⟩, A, l, c⟩], at_, 0, ts, he, hr, by omega, HS.calm (h1.alloc _), by omega, fun L q e => ?_, fun q e => by cases e⟩, (hC.alloc _).alloc _⟩
  injection e with e1 e2
  subst e1 e2
  exact ⟨rfl, rfl, rfl, rfl⟩
set_option maxHeartbeats 8000000 in
set_option maxRecDepth 100000 in
theorem find_any {b : Nat} {en at_ : Int} {ts : List Tok} {w : World} (k a n : Int) (A : Option Addr) (l c : Nat) (p : List Cls) (H : PSt w b en at_ 0 ts) (HP : ClsRow (NB b) w A l c p) (hl : p.length = l) :
    Calls Try.prog 90 #[.pointer (some ⟨b, 0, none⟩), .agg #[.int .i64 k, .int .i64 a, .int .i64 n, .slice A l c]] w fun e w' => PAns b w.heap.size en at_ (ts.length + 1) (findR p ts) e w' ∧ Chg (One b) w w' := by
  have hX := Blk.new w #[.int .i64 k, .int .i64 a, .int .i64 n, .slice A l c] 76
  have z3 := hX.cell 3 (v := .slice A l c) rfl
  have hXh := hid hX
  clear hX
  have HS := hid (H.calm ((Chg.refl Nothing w).alloc (.cells #[.int .i64 k, .int .i64 a, .int .i64 n, .slice A l c] 76)))
  have hHP := hid (HP.chg ((Chg.refl Nothing w).alloc (.cells #[.int .i64 k, .int .i64 a, .int .i64 n, .slice A l c] 76)) (fun _ _ _ h => h))
  have hbw : b < w.heap.size := by obtain ⟨_, _, _, _, h1, _⟩ := H; exact h1.lt
  have hlh := hid hl
  clear HP hl
  obtain ⟨B, m, d, qs, hB, hT, hq⟩ := H
  have x0 := hB.cell 0 (v := .slice B m d) rfl
  clear hB
  cases qs with
  | nil =>
    obtain rfl : m = 0 := by have := hT.len; simpa using this.symm
    subst hq
    clear hT
    go_enter Try.func90, Try.ntmps90
    go_wp2_with fail
    refine (nextS_no (k := 7) HS.out (fun t r e => by cases e)).mono ?_
    rintro e w1 ⟨rfl, hc1⟩
    have z3' := (hXh.out.chg hc1 id).cell 3 (v := .slice A l c) rfl
    have HS1 := hid (HS.out.calm hc1)
    have HP1 := hid (hHP.out.chg hc1 (fun _ _ _ h => h))
    have hC1 := hid ((((Chg.refl Nothing w).alloc _).trans hc1).mono (T := One b) (fun _ _ h => h.elim))
    have hs1 : w.heap.size < w1.heap.size := by have := hc1.size; rw [World.size_alloc] at this; omega
    clear hc1 z3 x0 HS hHP hXh
    go_wp2
    refine bodyPost_ret (v := .slice (some ⟨w1.heap.size + 1, 0, none⟩) 1 1) (by simp [results, Try.results90, go_sem]) rfl ?_
    exact find_tail _ HS1.out HP1.out hlh.out hC1.out (Nat.le_refl _) rfl
  | cons q r =>
    subst hq
    obtain ⟨g, o, rfl, hgl, hm0, c0, c1, c2, c3⟩ := hT.head
    have hm0' : (0 : Int) < (m : Int) := by omega
    clear hT c1 c3
    by_cases h7 : q.t.kind = 7
    · rw [h7] at c0
      by_cases hn : 64 < q.t.n
      · have hR := hid (show findR p ((q :: r).map TP.t) = .bad ((q :: r).map TP.t) from by unfold findR; rw [List.map_cons]; simp only; rw [if_pos h7, if_pos hn])
        have hn' : (64 : Int) < (q.t.n : Int) := by omega
        clear hn
        go_enter Try.func90, Try.ntmps90
        go_wp2_with fail
        refine (fails_first HS.out).mono ?_
        rintro e w1 ⟨rfl, hS1, hc1⟩
        go_wp2
        refine bodyPost_ret (v := .slice none 0 0) (by simp [results, Try.results90, go_sem]) rfl ?_
        rw [hR.out]
        refine ⟨⟨none, 0, 0, [], _, 140, _, rfl, NOwn.nil _ _ _, Nat.zero_le _, hS1, Nat.le_succ _, (fun L q e => by cases e), fun q e => ?_⟩, ((Chg.refl (One b) w).alloc _).trans hc1⟩
        injection e with e
        subst e
        exact ⟨rfl, rfl⟩
      · have hR := hid (show findR p ((q :: r).map TP.t) = .ok [⟨1, 0, p, q.t.n⟩] (r.map TP.t) from by unfold findR; rw [List.map_cons]; simp only; rw [if_pos h7, if_neg hn])
        have hn' : decide ((64 : Int) < (q.t.n : Int)) = false := decide_eq_false (by omega)
        clear hn
        go_enter Try.func90, Try.ntmps90
        go_wp2_with fail
        refine (nextS_yes (k := 7) HS.out h7).mono ?_
        rintro e w1 ⟨A1, l1, c1, rfl, -, -, hS1, hc1⟩
        have z3' := (hXh.out.chg hc1 (by unfold One; omega)).cell 3 (v := .slice A l c) rfl
        have HS1 := hid hS1
        have HP1 := hid (hHP.out.chg hc1 NB.no)
        have hC1 := hid (((Chg.refl (One b) w).alloc _).trans hc1)
        have hs1 : w.heap.size < w1.heap.size := by have := hc1.size; rw [World.size_alloc] at this; omega
        clear hc1 z3 x0 HS hHP hXh c0 c2 hS1
        go_wp2
        refine bodyPost_ret (v := .slice (some ⟨w1.heap.size + 1, 0, none⟩) 1 1) (by simp [results, Try.results90, go_sem]) rfl ?_
        rw [hR.out]
        exact find_tail _ HS1.out HP1.out hlh.out hC1.out (by simp) rfl
    · have hR := hid (show findR p ((q :: r).map TP.t) = .ok [⟨1, 0, p, 0⟩] ((q :: r).map TP.t) from by unfold findR; rw [List.map_cons]; simp only; rw [if_neg h7])
      have h7' : ((q.t.kind : Int) == 7) = false := beq_eq_false_iff_ne.2 (by omega)
      have h7h := hid h7
      clear h7 c2
      go_enter Try.func90, Try.ntmps90
      go_wp2_with fail
      refine (nextS_no (k := 7) HS.out (fun t r e => by injection e with e1 e2; subst e1; exact h7h.out)).mono ?_
      rintro e w1 ⟨rfl, hc1⟩
      have z3' := (hXh.out.chg hc1 id).cell 3 (v := .slice A l c) rfl
      have HS1 := hid (HS.out.calm hc1)
      have HP1 := hid (hHP.out.chg hc1 (fun _ _ _ h => h))
      have hC1 := hid ((((Chg.refl Nothing w).alloc _).trans hc1).mono (T := One b) (fun _ _ h => h.elim))
      have hs1 : w.heap.size < w1.heap.size := by have := hc1.size; rw [World.size_alloc] at this; omega
      clear hc1 z3 x0 HS hHP hXh c0
      go_wp2
      refine bodyPost_ret (v := .slice (some ⟨w1.heap.size + 1, 0, none⟩) 1 1) (by simp [results, Try.results90, go_sem]) rfl ?_
      rw [hR.out]
      exact find_tail _ HS1.out HP1.out hlh.out hC1.out (Nat.le_refl _) rfl
end Go.Proofs.Ytllblpiakijpaaa

/- Layer 14: the parser's chain. -/
namespace Go.Proofs.Ytllblpiakijpaaa
open Go.RowKit
set_option linter.unusedVariables false
/-- The contract of a part of the parser. -/
def PCon (b : Nat) (en at_ : Int) (fn : Nat) (one : List Tok → PR → Prop) : Prop := ∀ ts R w, one ts R → ts.length ≤ 100000 → PSt w b en at_ 0 ts → Calls Try.prog fn #[.pointer (some ⟨b, 0, none⟩)] w fun e w' => PAns b w.heap.size en at_ ts.length R e w' ∧ Chg (One b) w w'
def tokLen (b : Nat) (w : World) : Nat := match w.cell? ⟨b, 0, none⟩ with | some (.slice _ n _) => n | _ => 0
theorem PSt.tokLen {w : World} {b : Nat} {en at_ no : Int} {ts : List Tok} (h : PSt w b en at_ no ts) : tokLen b w = ts.length := by
  obtain ⟨A, m, c, qs, h1, h2, rfl⟩ := h
  have x0 := h1.cell 0 (v := .slice A m c) rfl
  unfold Go.Proofs.Ytllblpiakijpaaa.tokLen
  rw [x0, List.length_map, h2.len]
def ChInv (w : World) (b : Nat) (en at_ : Int) (one : List Tok → PR → Prop) (sign : Nat) (kind : Int) (N : Nat) (R : PR) (v9 : Value) (wr : World) : Prop := ∃ A n c ps at' no' ts', v9 = .slice A n c ∧ NOwn b w.heap.size wr A n c ps ∧ PSt wr b en at' no' ts' ∧ Chg (One b) w wr ∧
  ((no' = 0 ∧ at' = at_ ∧ n + ts'.length ≤ N ∧ LoopRd one sign kind (ps.map NP.x) ts' R) ∨ (no' = 140 ∧ n ≤ N ∧ ts'.length ≤ N ∧ ∃ q, R = .bad q ∧ at' = headAt en q))
/-- What a part answers, with the sizes told. -/
theorem pans_sizes {b base N : Nat} {en at_ : Int} {ts : List Tok} {R : PR} {e : Ending} {w' : World} (h : PAns b base en at_ ts.length R e w') (hf : Fine ts R) : ∃ A n c ps at' no' ts', e = .returned (.slice A n c) ∧ NOwn b base w' A n c ps ∧ PSt w' b en at' no' ts' ∧ n ≤ ts.length ∧ ts'.length ≤ ts.length ∧
    ((no' = 0 ∧ at' = at_ ∧ n + ts'.length ≤ ts.length ∧ R = .ok (ps.map NP.x) ts') ∨ (no' = 140 ∧ ∃ q, R = .bad q ∧ at' = headAt en q)) := by
  obtain ⟨A, n, c, ps, at', no', ts', he, hr, hn, hS, ht, h1, h2⟩ := h
  refine ⟨A, n, c, ps, at', no', ts', he, hr, hS, hn, ht, ?_⟩
  cases R with
  | ok L q =>
    obtain ⟨e1, e2, rfl, rfl⟩ := h1 L q rfl
    obtain ⟨pre, hp, -, hl, -⟩ := hf.ok _ _ rfl
    rw [List.length_map, hr.len] at hl
    have := congrArg List.length hp
    rw [List.length_append] at this
    exact .inl ⟨e1, e2, by omega, rfl⟩
  | bad q =>
    obtain ⟨e1, e2⟩ := h2 q rfl
    exact .inr ⟨e1, q, rfl, e2⟩
theorem chain_start {w w1 : World} {b : Nat} {en at_ : Int} {one : List Tok → PR → Prop} {sign : Nat} {kind : Int} {ts : List Tok} {R R0 : PR} {e : Ending} (h : PAns b w.heap.size en at_ ts.length R0 e w1) (hc : Chg (One b) w w1) (hf : Fine ts R0) (hok : ∀ L q, R0 = .ok L q → LoopRd one sign kind L q R) (hbad : ∀ q, R0 = .bad q → R = .bad q) : ∃ v, e = .returned v ∧ ChInv w b en at_ one sign kind ts.length R v w1 := by
  obtain ⟨A, n, c, ps, at', no', ts', he, hr, hS, hn, ht, h⟩ := pans_sizes (N := 0) h hf
  refine ⟨_, he, A, n, c, ps, at', no', ts', rfl, hr, hS, hc, ?_⟩
  rcases h with ⟨h1, h2, h3, h4⟩ | ⟨h1, q, h2, h3⟩
  · exact .inl ⟨h1, h2, h3, hok _ _ h4⟩
  · exact .inr ⟨h1, hn, ht, q, hbad q h2, h3⟩
theorem loop_cases {one : List Tok → PR → Prop} {sign : Nat} {kind : Int} {L : List Nd} {ts : List Tok} {R : PR} (h : LoopRd one sign kind L ts R) :
    (headNot sign ts ∧ R = .ok L ts) ∨ ∃ t r R1, ts = t :: r ∧ t.kind = sign ∧ one r R1 ∧ (∀ L1 q, R1 = .ok L1 q → LoopRd one sign kind (⟨kind, 0, [], 0⟩ :: (L ++ L1)) q R) ∧ (∀ q, R1 = .bad q → R = .bad q) := by
  cases h with
  | stop h => exact .inl ⟨h, rfl⟩
  | @bad _ t r q h k => exact .inr ⟨t, r, .bad q, rfl, h, k, (fun L q e => by cases e), fun q e => e⟩
  | @step _ L1 t r q R h k g => exact .inr ⟨t, r, .ok L1 q, rfl, h, k, (fun L q e => by injection e with e1 e2; subst e1 e2; exact g), fun q e => by cases e⟩
set_option maxHeartbeats 8000000 in
set_option maxRecDepth 100000 in
theorem chain_any {b fn : Nat} {en at_ : Int} {one : List Tok → PR → Prop} (sign : Nat) (kind : Int) {ts : List Tok} {R : PR} {w : World} (hent : ∀ args w, (callFunc fn args).run Try.prog w = .ok (.enter fn args) w) (hone : PCon b en at_ fn one) (hf : ∀ ts R, one ts R → Fine ts R) (hR : ChainRd one sign kind ts R) (hN : ts.length ≤ 100000) (H : PSt w b en at_ 0 ts) :
    Calls Try.prog 50 #[.pointer (some ⟨b, 0, none⟩), .func (.func fn) #[.pointer (some ⟨b, 0, none⟩)] #[], .int .i64 sign, .int .i64 kind] w fun e w' => PAns b w.heap.size en at_ ts.length R e w' ∧ Chg (One b) w w' := by
  obtain ⟨R0, h0, hok, hbad⟩ : ∃ R0, one ts R0 ∧ (∀ L q, R0 = .ok L q → LoopRd one sign kind L q R) ∧ (∀ q, R0 = .bad q → R = .bad q) := by
    cases hR with
    | @bad q k => exact ⟨.bad q, k, (fun L q e => by cases e), fun q e => e⟩
    | @go L q _ k g => exact ⟨.ok L q, k, (fun L q e => by injection e with e1 e2; subst e1 e2; exact g), fun q e => by cases e⟩
  have hE := hid hent
  clear hent
  have h0h := hid h0
  have hokh := hid hok
  have hbadh := hid hbad
  have hbW : b < w.heap.size := by obtain ⟨_, _, _, _, h1, _⟩ := H; exact h1.lt
  have hHone := hid hone
  have hHf := hid hf
  have HS := hid H
  have hNh := hid hN
  clear h0 hok hbad hone hf H hR hN
  go_enter Try.func50, Try.ntmps50
  go_wp2_with fail
  rw [hE.out, Oper.upon_enter]
  refine (hHone.out _ _ _ h0h.out hNh.out HS.out).mono ?_
  rintro e w1 ⟨hA1, hc1⟩
  obtain ⟨v1, rfl, hI1⟩ := chain_start (sign := sign) (kind := kind) hA1 hc1 (hHf.out _ _ h0h.out) hokh.out hbadh.out
  have hI := hid hI1
  clear hA1 hc1 h0h hokh hbadh HS hI1
  go_wp2
  go_loopw [9] (fun v9 wr => ChInv w b en at_ one sign kind ts.length R v9 wr) (fun _ wr => tokLen b wr)
  case atStart => exact hI.out
  case round =>
    obtain ⟨A, n, c, ps, at', no', ts', rfl, hr, hS, hc, hcs⟩ := hrel
    have x3 : wr.cell? ⟨b, 3, none⟩ = some (.int .i64 no') := by obtain ⟨_, _, _, _, h1, _⟩ := hS; exact h1.cell 3 rfl
    have hbw : b < wr.heap.size := by obtain ⟨_, _, _, _, h1, _⟩ := hS; exact h1.lt
    rcases hcs with ⟨rfl, rfl, hn, hL⟩ | ⟨rfl, hn, ht, q, hq, rfl⟩
    · have hS' := hid hS
      have hr' := hid hr
      have hc' := hid hc
      have hLl := hr.len
      clear hS hr hc hI
      rcases loop_cases hL with ⟨hh, hRe⟩ | ⟨t, r, R1, rfl, hk, h1, hok, hbad⟩
      · have hh' := hid hh
        have hRe' := hid hRe
        clear hL hh hRe
        go_wp2_with fail
        refine (nextS_no hS'.out hh'.out).mono ?_
        rintro e w2 ⟨rfl, hc2⟩
        have hc2' := hid hc2
        clear hc2 x3
        go_wp2
        refine bodyPost_ret (v := .slice A n c) (by simp [results, Try.results50, go_sem]) rfl ?_
        have hcx := hc2'.out.alloc (.cells #[.int .i64 0, .int .i64 0, .int .i64 0, .slice none 0 0] 76)
        rw [hRe'.out]
        refine ⟨⟨A, n, c, ps, _, 0, ts', rfl, hr'.out.calm hcx, by omega, hS'.out.calm hcx, by omega, (fun L q e => ?_), fun q e => by cases e⟩, hc'.out.trans (hcx.mono (fun _ _ h => h.elim))⟩
        injection e with e1 e2
        subst e1 e2
        exact ⟨rfl, rfl, rfl, rfl⟩
      · have hk' := hid hk
        have h1' := hid h1
        have hok' := hid hok
        have hbad' := hid hbad
        rw [List.length_cons] at hn
        clear hL hk h1 hok hbad
        go_wp2_with fail
        refine (nextS_yes hS'.out hk'.out).mono ?_
        rintro e w2 ⟨A2, l2, c2, rfl, -, -, hS2, hc2⟩
        have hS2' := hid hS2
        have hc2' := hid hc2
        have hb2 : b < w2.heap.size := Nat.lt_of_lt_of_le hbw hc2.size
        clear hc2 hS2 x3
        have hcw := hid (hc'.out.trans hc2'.out)
        have hbb : b < w.heap.size := hbW
        have hrw2 := hid (hr'.out.keep hbb hc2'.out)
        have htl := hid hS'.out.tokLen
        clear hc' hc2' hr' hS'
        go_wp2_with fail
        rw [hE.out, Oper.upon_enter]
        have hX := hid (((Chg.refl Nothing w2).alloc (.cells #[.int .i64 sign, .int .i64 t.at_, .int .i64 t.n, .slice A2 l2 c2] 76)).alloc (.cells #[.int .i64 kind, .int .i64 0, .slice none 0 0, .int .i64 0] 40))
        have hN0 := hid (nown_one (b := b) (W := w2.alloc (.cells #[.int .i64 sign, .int .i64 t.at_, .int .i64 t.n, .slice A2 l2 c2] 76)) ⟨⟨kind, 0, [], 0⟩, none, 0, 0⟩ ⟨RowAt.none _ _ _, rfl⟩)
        refine (hHone.out _ _ _ h1'.out (by have := hNh.out; omega) (hS2'.out.calm hX.out)).mono ?_
        rintro e w3 ⟨hA1, hc3⟩
        obtain ⟨A3, n3, c3, ps3, at3, no3, ts3, rfl, hr3, hS3, hn3, ht3, hcs3⟩ := pans_sizes (N := 0) hA1 (hHf.out _ _ h1'.out)
        have hN03 := hid (hN0.out.keep (by rw [World.size_alloc]; omega) hc3)
        have hN13 := hid ((hrw2.out.calm hX.out).keep hbb hc3)
        have hN23 := hid hr3
        have hcw3 := hid ((hcw.out.trans (hX.out.mono (fun _ _ h => h.elim))).trans hc3)
        have hS3' := hid hS3
        have hcs3' := hid hcs3
        have hs3 : w2.heap.size + 2 ≤ w3.heap.size := by have := hc3.size; rw [World.size_alloc, World.size_alloc] at this; omega
        rw [World.size_alloc] at hN03
        clear hA1 hc3 hN0 hrw2 hX hcw hr3 hS3 hcs3 hS2'
        go_wp2_with fail
        have hY := hid ((Chg.refl Nothing w3).alloc (.cells #[.slice (some ⟨w2.heap.size + 1, 0, none⟩) 1 1, .slice A n c, .slice A3 n3 c3] 23))
        refine (concat_any (fun _ => True) w3.heap.size 23 _ A A3 1 n n3 1 c c3 _ ps ps3 _ (Blk.new w3 _ _) (hN03.out.calm hY.out).row (hN13.out.calm hY.out).row (hN23.out.calm hY.out).row (by have := hNh.out; omega)).mono ?_
        rintro e w4 ⟨A4, c4, rfl, hown, hc4⟩
        have hX4 := hid (hY.out.trans hc4)
        have hps : ([⟨⟨kind, 0, [], 0⟩, none, 0, 0⟩] ++ ps ++ ps3 : List NP).length = 1 + n + n3 := by rw [List.length_append, List.length_append, hLl, hN23.out.len]; rfl
        rw [World.size_alloc] at hown
        have hrow := hid (NOwn.mk (b := b) (base := w.heap.size) (ps := [⟨⟨kind, 0, [], 0⟩, none, 0, 0⟩] ++ ps ++ ps3) hps (own_base_less hown (by have := hcw3.out.size; omega)) (fun p hp => by
          rw [List.mem_append, List.mem_append] at hp
          rcases hp with (hp | hp) | hp
          · exact (hN03.out.calm hX4.out).els p hp
          · exact (hN13.out.calm hX4.out).els p hp
          · exact (hN23.out.calm hX4.out).els p hp))
        clear hown hc4 hN03 hN13 hN23 hY hps
        go_wp2
        go_roundw
        case rel =>
          refine ⟨A4, 1 + n + n3, c4, _, at3, no3, ts3, rfl, hrow.out, hS3'.out.calm hX4.out, hcw3.out.trans (hX4.out.mono (fun _ _ h => h.elim)), ?_⟩
          rcases hcs3'.out with ⟨e1, e2, e3, e4⟩ | ⟨e1, q, e2, e3⟩
          · refine .inl ⟨e1, e2, by omega, ?_⟩
            have := hok'.out _ _ e4
            rwa [show ([⟨⟨kind, 0, [], 0⟩, none, 0, 0⟩] ++ ps ++ ps3 : List NP).map NP.x = ⟨kind, 0, [], 0⟩ :: (ps.map NP.x ++ ps3.map NP.x) from by simp]
          · exact .inr ⟨e1, by omega, by omega, q, hbad'.out _ e2, e3⟩
        case measure => rw [htl.out, (hS3'.out.calm hX4.out).tokLen, List.length_cons]; omega
    · have HF := hid (show PAns b w.heap.size en at_ ts.length R (.returned (.slice A n c)) wr from ⟨A, n, c, ps, _, _, ts', rfl, hr, hn, hS, ht, (fun L q' e => by rw [hq] at e; cases e), fun q' e => by rw [hq] at e; injection e with e; subst e; exact ⟨rfl, rfl⟩⟩)
      clear hr hS hq ht
      go_wp2
      refine bodyPost_ret (v := .slice A n c) (by simp [results, Try.results50, go_sem]) rfl ⟨HF.out, hc⟩
end Go.Proofs.Ytllblpiakijpaaa

/- Layer 14: the parser's item. (Printed by wip/gen/gen_qn.py.) -/
namespace Go.Proofs.Ytllblpiakijpaaa
open Go.RowKit
set_option linter.unusedVariables false
theorem head_ne {t : Tok} {r : List Tok} {k : Nat} (h : t.kind ≠ k) : headNot k (t :: r) := fun u q e => by injection e with e1 e2; subst e1; exact h

set_option maxHeartbeats 8000000 in
set_option maxRecDepth 100000 in
theorem item_other {b : Nat} {en at_ : Int} {ts : List Tok} {w : World} (H : PSt w b en at_ 0 ts) (h5 : headNot 5 ts) (h6 : headNot 6 ts) (h8 : headNot 8 ts) (h1 : headNot 1 ts) :
    Calls Try.prog 74 #[.pointer (some ⟨b, 0, none⟩)] w fun e w' => PAns b w.heap.size en at_ ts.length (.bad ts) e w' ∧ Chg (One b) w w' := by
  have HS0 := hid H
  have hC0 := hid (Chg.refl (One b) w)
  have hb0 : b < w.heap.size := by obtain ⟨_, _, _, _, h1, _⟩ := H; exact h1.lt
  clear H
  have g5 := hid h5
  have g6 := hid h6
  have g8 := hid h8
  have g1 := hid h1
  clear h5 h6 h8 h1
  go_enter Try.func74, Try.ntmps74
  go_wp2_with fail
  refine (nextS_no (k := 5) HS0.out (g5.out)).mono ?_
  rintro e w1 ⟨rfl, hc1⟩
  have HS1 := hid ((HS0.out.calm hc1).calm ((Chg.refl Nothing w1).alloc (.cells #[.int .i64 0, .int .i64 0, .int .i64 0, .slice none 0 0] 76)))
  have hC1 := hid ((hC0.out.trans (hc1.mono (fun _ _ h => h.elim))).alloc (.cells #[.int .i64 0, .int .i64 0, .int .i64 0, .slice none 0 0] 76))
  have hb1 : b < w1.heap.size := Nat.lt_of_lt_of_le (by first | exact hb0 | (rw [World.size_alloc]; omega)) hc1.size
  clear hc1 HS0 hC0
  go_wp2_with fail
  refine (nextS_no (k := 6) HS1.out (g6.out)).mono ?_
  rintro e w2 ⟨rfl, hc2⟩
  have HS2 := hid ((HS1.out.calm hc2).calm ((Chg.refl Nothing w2).alloc (.cells #[.int .i64 0, .int .i64 0, .int .i64 0, .slice none 0 0] 76)))
  have hC2 := hid ((hC1.out.trans (hc2.mono (fun _ _ h => h.elim))).alloc (.cells #[.int .i64 0, .int .i64 0, .int .i64 0, .slice none 0 0] 76))
  have hb2 : b < w2.heap.size := Nat.lt_of_lt_of_le (by first | exact hb1 | (rw [World.size_alloc]; omega)) hc2.size
  clear hc2 HS1 hC1
  go_wp2_with fail
  refine (nextS_no (k := 8) HS2.out (g8.out)).mono ?_
  rintro e w3 ⟨rfl, hc3⟩
  have HS3 := hid ((HS2.out.calm hc3).calm ((Chg.refl Nothing w3).alloc (.cells #[.int .i64 0, .int .i64 0, .int .i64 0, .slice none 0 0] 76)))
  have hC3 := hid ((hC2.out.trans (hc3.mono (fun _ _ h => h.elim))).alloc (.cells #[.int .i64 0, .int .i64 0, .int .i64 0, .slice none 0 0] 76))
  have hb3 : b < w3.heap.size := Nat.lt_of_lt_of_le (by first | exact hb2 | (rw [World.size_alloc]; omega)) hc3.size
  clear hc3 HS2 hC2
  go_wp2_with fail
  refine (nextS_no (k := 1) HS3.out (g1.out)).mono ?_
  rintro e w4 ⟨rfl, hc4⟩
  have HS4 := hid ((HS3.out.calm hc4).calm ((Chg.refl Nothing w4).alloc (.cells #[.int .i64 0, .int .i64 0, .int .i64 0, .slice none 0 0] 76)))
  have hC4 := hid ((hC3.out.trans (hc4.mono (fun _ _ h => h.elim))).alloc (.cells #[.int .i64 0, .int .i64 0, .int .i64 0, .slice none 0 0] 76))
  have hb4 : b < w4.heap.size := Nat.lt_of_lt_of_le (by first | exact hb3 | (rw [World.size_alloc]; omega)) hc4.size
  clear hc4 HS3 hC3
  go_wp2_with fail
  refine (fails_first HS4.out).mono ?_
  rintro e w5 ⟨rfl, hS, hc5⟩
  have HS5 := hid hS
  have hC5 := hid (hC4.out.trans hc5)
  clear hS hc5 hC4 HS4
  go_wp2
  refine bodyPost_ret (v := .slice none 0 0) (by simp [results, Try.results74, go_sem]) rfl ⟨⟨none, 0, 0, [], _, 140, ts, rfl, NOwn.nil _ _ _, Nat.zero_le _, HS5.out, Nat.le_refl _, (fun L q e => by cases e), fun q e => ?_⟩, hC5.out⟩
  injection e with e
  subst e
  exact ⟨rfl, rfl⟩

set_option maxHeartbeats 8000000 in
set_option maxRecDepth 100000 in
theorem item_pat {b : Nat} {en at_ : Int} {t : Tok} {r : List Tok} {w : World} (H : PSt w b en at_ 0 (t :: r)) (hk : t.kind = 8) :
    Calls Try.prog 74 #[.pointer (some ⟨b, 0, none⟩)] w fun e w' => PAns b w.heap.size en at_ (t :: r).length (findR t.p r) e w' ∧ Chg (One b) w w' := by
  have HS0 := hid H
  have hC0 := hid (Chg.refl (One b) w)
  have hb0 : b < w.heap.size := by obtain ⟨_, _, _, _, h1, _⟩ := H; exact h1.lt
  clear H
  have g5 := hid (head_ne (r := r) (t := t) (k := 5) (by omega))
  have g6 := hid (head_ne (r := r) (t := t) (k := 6) (by omega))
  have hk' := hid hk
  clear hk
  go_enter Try.func74, Try.ntmps74
  go_wp2_with fail
  refine (nextS_no (k := 5) HS0.out (g5.out)).mono ?_
  rintro e w1 ⟨rfl, hc1⟩
  have HS1 := hid ((HS0.out.calm hc1).calm ((Chg.refl Nothing w1).alloc (.cells #[.int .i64 0, .int .i64 0, .int .i64 0, .slice none 0 0] 76)))
  have hC1 := hid ((hC0.out.trans (hc1.mono (fun _ _ h => h.elim))).alloc (.cells #[.int .i64 0, .int .i64 0, .int .i64 0, .slice none 0 0] 76))
  have hb1 : b < w1.heap.size := Nat.lt_of_lt_of_le (by first | exact hb0 | (rw [World.size_alloc]; omega)) hc1.size
  clear hc1 HS0 hC0
  go_wp2_with fail
  refine (nextS_no (k := 6) HS1.out (g6.out)).mono ?_
  rintro e w2 ⟨rfl, hc2⟩
  have HS2 := hid ((HS1.out.calm hc2).calm ((Chg.refl Nothing w2).alloc (.cells #[.int .i64 0, .int .i64 0, .int .i64 0, .slice none 0 0] 76)))
  have hC2 := hid ((hC1.out.trans (hc2.mono (fun _ _ h => h.elim))).alloc (.cells #[.int .i64 0, .int .i64 0, .int .i64 0, .slice none 0 0] 76))
  have hb2 : b < w2.heap.size := Nat.lt_of_lt_of_le (by first | exact hb1 | (rw [World.size_alloc]; omega)) hc2.size
  clear hc2 HS1 hC1
  go_wp2_with fail
  refine (nextS_yes (k := 8) HS2.out hk'.out).mono ?_
  rintro e w3 ⟨A1, l1, c1, rfl, hP, hPl, hS, hc3⟩
  have HS3 := hid (hS.calm ((Chg.refl Nothing w3).alloc (.cells #[.int .i64 8, .int .i64 t.at_, .int .i64 t.n, .slice A1 l1 c1] 76)))
  have hC3 := hid ((hC2.out.trans hc3).alloc (.cells #[.int .i64 8, .int .i64 t.at_, .int .i64 t.n, .slice A1 l1 c1] 76))
  have hb3 : b < w3.heap.size := Nat.lt_of_lt_of_le (by first | exact hb2 | (rw [World.size_alloc]; omega)) hc3.size
  clear hc3 HS2 hC2 hS
  have hP' := hid (hP.chg ((Chg.refl Nothing w3).alloc (.cells #[.int .i64 8, .int .i64 t.at_, .int .i64 t.n, .slice A1 l1 c1] 76)) (fun _ _ _ h => h))
  have hPl' := hid hPl
  clear hP hPl
  go_wp2_with fail
  refine (find_any _ _ _ _ _ _ _ HS3.out hP'.out hPl'.out).mono ?_
  rintro e w4 ⟨hA, hc4⟩
  obtain ⟨v, rfl⟩ : ∃ v, e = .returned v := by obtain ⟨A, n, c, ps, a', n', ts', he, _⟩ := hA; exact ⟨_, he⟩
  have hA' := hid (hA.less (base' := w.heap.size) (by have := hC3.out.size; exact this))
  have hC4 := hid (hC3.out.trans hc4)
  clear hA hc4 HS3 hC3 hP'
  go_wp2
  refine bodyPost_ret (v := v) (by simp [results, Try.results74, go_sem]) rfl ⟨hA'.out, hC4.out⟩

set_option maxHeartbeats 8000000 in
set_option maxRecDepth 100000 in
theorem item_open {b : Nat} {en at_ : Int} {t : Tok} {r : List Tok} {n : Nat} {R0 R : PR} {w : World} (H : PSt w b en at_ 0 (t :: r)) (hk : t.kind = 1) (hQ : PCon b en at_ 29 (queryR n)) (h0 : queryR n r R0) (hN : r.length ≤ 100000)
    (h1 : ∀ L u q, R0 = .ok L (u :: q) → u.kind = 2 → R = .ok L q) (h2 : ∀ L q, R0 = .ok L q → headNot 2 q → R = .bad q) (h3 : ∀ q, R0 = .bad q → R = .bad q) :
    Calls Try.prog 74 #[.pointer (some ⟨b, 0, none⟩)] w fun e w' => PAns b w.heap.size en at_ (t :: r).length R e w' ∧ Chg (One b) w w' := by
  have HS0 := hid H
  have hC0 := hid (Chg.refl (One b) w)
  have hb0 : b < w.heap.size := by obtain ⟨_, _, _, _, h1, _⟩ := H; exact h1.lt
  clear H
  have g5 := hid (head_ne (r := r) (t := t) (k := 5) (by omega))
  have g6 := hid (head_ne (r := r) (t := t) (k := 6) (by omega))
  have g8 := hid (head_ne (r := r) (t := t) (k := 8) (by omega))
  have hk' := hid hk
  have hQ' := hid hQ
  have h0' := hid h0
  have h1' := hid h1
  have h2' := hid h2
  have h3' := hid h3
  have hN' := hid hN
  clear hk hQ h0 h1 h2 h3 hN
  go_enter Try.func74, Try.ntmps74
  go_wp2_with fail
  refine (nextS_no (k := 5) HS0.out (g5.out)).mono ?_
  rintro e w1 ⟨rfl, hc1⟩
  have HS1 := hid ((HS0.out.calm hc1).calm ((Chg.refl Nothing w1).alloc (.cells #[.int .i64 0, .int .i64 0, .int .i64 0, .slice none 0 0] 76)))
  have hC1 := hid ((hC0.out.trans (hc1.mono (fun _ _ h => h.elim))).alloc (.cells #[.int .i64 0, .int .i64 0, .int .i64 0, .slice none 0 0] 76))
  have hb1 : b < w1.heap.size := Nat.lt_of_lt_of_le (by first | exact hb0 | (rw [World.size_alloc]; omega)) hc1.size
  clear hc1 HS0 hC0
  go_wp2_with fail
  refine (nextS_no (k := 6) HS1.out (g6.out)).mono ?_
  rintro e w2 ⟨rfl, hc2⟩
  have HS2 := hid ((HS1.out.calm hc2).calm ((Chg.refl Nothing w2).alloc (.cells #[.int .i64 0, .int .i64 0, .int .i64 0, .slice none 0 0] 76)))
  have hC2 := hid ((hC1.out.trans (hc2.mono (fun _ _ h => h.elim))).alloc (.cells #[.int .i64 0, .int .i64 0, .int .i64 0, .slice none 0 0] 76))
  have hb2 : b < w2.heap.size := Nat.lt_of_lt_of_le (by first | exact hb1 | (rw [World.size_alloc]; omega)) hc2.size
  clear hc2 HS1 hC1
  go_wp2_with fail
  refine (nextS_no (k := 8) HS2.out (g8.out)).mono ?_
  rintro e w3 ⟨rfl, hc3⟩
  have HS3 := hid ((HS2.out.calm hc3).calm ((Chg.refl Nothing w3).alloc (.cells #[.int .i64 0, .int .i64 0, .int .i64 0, .slice none 0 0] 76)))
  have hC3 := hid ((hC2.out.trans (hc3.mono (fun _ _ h => h.elim))).alloc (.cells #[.int .i64 0, .int .i64 0, .int .i64 0, .slice none 0 0] 76))
  have hb3 : b < w3.heap.size := Nat.lt_of_lt_of_le (by first | exact hb2 | (rw [World.size_alloc]; omega)) hc3.size
  clear hc3 HS2 hC2
  go_wp2_with fail
  refine (nextS_yes (k := 1) HS3.out hk'.out).mono ?_
  rintro e w4 ⟨A1, l1, c1, rfl, hP, hPl, hS, hc4⟩
  have HS4 := hid (hS.calm ((Chg.refl Nothing w4).alloc (.cells #[.int .i64 1, .int .i64 t.at_, .int .i64 t.n, .slice A1 l1 c1] 76)))
  have hC4 := hid ((hC3.out.trans hc4).alloc (.cells #[.int .i64 1, .int .i64 t.at_, .int .i64 t.n, .slice A1 l1 c1] 76))
  have hb4 : b < w4.heap.size := Nat.lt_of_lt_of_le (by first | exact hb3 | (rw [World.size_alloc]; omega)) hc4.size
  clear hc4 HS3 hC3 hS
  clear hP hPl
  go_wp2_with fail
  refine (hQ'.out _ _ _ h0'.out hN'.out HS4.out).mono ?_
  rintro e w5 ⟨hA, hc5⟩
  obtain ⟨A, m, c, ps, a5, no5, ts5, rfl, hr, hS, hm, ht, hcs⟩ := pans_sizes (N := 0) hA (fine_query n h0'.out)
  have HS5 := hid hS
  have hC5 := hid (hC4.out.trans hc5)
  have hr5 := hid (hr.less (base' := w.heap.size) (by rw [World.size_alloc]; have := hC4.out.size; rw [World.size_alloc] at this; omega))
  have hcs' := hid hcs
  have hb5 : b < w5.heap.size := Nat.lt_of_lt_of_le (by rw [World.size_alloc]; omega) hc5.size
  clear hA hr hS hcs hc5 HS4 hC4
  have hcase : headNot 2 ts5 ∨ ∃ u q5, ts5 = u :: q5 ∧ u.kind = 2 := by
    cases ts5 with
    | nil => exact .inl (fun t r e => by cases e)
    | cons u q5 =>
      by_cases hu : u.kind = 2
      · exact .inr ⟨u, q5, rfl, hu⟩
      · exact .inl (head_ne hu)
  rcases hcase with hh | ⟨u, q5, rfl, hu⟩
  · have hh' := hid hh
    clear hh
    go_wp2_with fail
    refine (nextS_no (k := 2) HS5.out (hh'.out)).mono ?_
    rintro e w6 ⟨rfl, hc6⟩
    have HS6 := hid ((HS5.out.calm hc6).calm ((Chg.refl Nothing w6).alloc (.cells #[.int .i64 0, .int .i64 0, .int .i64 0, .slice none 0 0] 76)))
    have hC6 := hid ((hC5.out.trans (hc6.mono (fun _ _ h => h.elim))).alloc (.cells #[.int .i64 0, .int .i64 0, .int .i64 0, .slice none 0 0] 76))
    have hb6 : b < w6.heap.size := Nat.lt_of_lt_of_le (by first | exact hb5 | (rw [World.size_alloc]; omega)) hc6.size
    clear hc6 HS5 hC5
    rcases hcs'.out with ⟨rfl, rfl, -, rfl⟩ | ⟨rfl, q, rfl, rfl⟩
    · go_wp2_with fail
      refine (fails_first HS6.out).mono ?_
      rintro e w7 ⟨rfl, hS, hc7⟩
      have HS7 := hid hS
      have hC7 := hid (hC6.out.trans hc7)
      have hR := hid (h2'.out _ _ rfl hh'.out)
      clear hS hc7 hC6 HS6 hcs'
      go_wp2
      refine bodyPost_ret (v := .slice none 0 0) (by simp [results, Try.results74, go_sem]) rfl ⟨⟨none, 0, 0, [], _, 140, ts5, rfl, NOwn.nil _ _ _, Nat.zero_le _, HS7.out, by (try rw [List.length_cons]); omega, (fun L q e => by rw [hR.out] at e; cases e), fun q e => ?_⟩, hC7.out⟩
      rw [hR.out] at e
      injection e with e
      subst e
      exact ⟨rfl, rfl⟩
    · go_wp2_with fail
      refine (fails_again HS6.out).mono ?_
      rintro e w7 ⟨rfl, hc7⟩
      have HS7 := hid (HS6.out.calm hc7)
      have hC7 := hid (hC6.out.trans (hc7.mono (fun _ _ h => h.elim)))
      have hR := hid (h3'.out _ rfl)
      clear hc7 hC6 HS6 hcs'
      go_wp2
      refine bodyPost_ret (v := .slice none 0 0) (by simp [results, Try.results74, go_sem]) rfl ⟨⟨none, 0, 0, [], _, 140, ts5, rfl, NOwn.nil _ _ _, Nat.zero_le _, HS7.out, by (try rw [List.length_cons]); omega, (fun L q e => by rw [hR.out] at e; cases e), fun q' e => ?_⟩, hC7.out⟩
      rw [hR.out] at e
      injection e with e
      subst e
      exact ⟨rfl, rfl⟩
  · have hu' := hid hu
    clear hu
    go_wp2_with fail
    refine (nextS_yes (k := 2) HS5.out hu'.out).mono ?_
    rintro e w6 ⟨A2, l2, c2, rfl, hP, hPl, hS, hc6⟩
    have HS6 := hid (hS.calm ((Chg.refl Nothing w6).alloc (.cells #[.int .i64 2, .int .i64 u.at_, .int .i64 u.n, .slice A2 l2 c2] 76)))
    have hC6 := hid ((hC5.out.trans hc6).alloc (.cells #[.int .i64 2, .int .i64 u.at_, .int .i64 u.n, .slice A2 l2 c2] 76))
    have hb6 : b < w6.heap.size := Nat.lt_of_lt_of_le (by first | exact hb5 | (rw [World.size_alloc]; omega)) hc6.size
    have hr6' := hid ((hr5.out.keep hb0 hc6).calm ((Chg.refl Nothing w6).alloc (.cells #[.int .i64 2, .int .i64 u.at_, .int .i64 u.n, .slice A2 l2 c2] 76)))
    clear hc6 HS5 hC5 hS
    clear hP hPl
    go_wp2
    refine bodyPost_ret (v := .slice A m c) (by simp [results, Try.results74, go_sem]) rfl ⟨?_, hC6.out⟩
    rw [List.length_cons] at ht
    refine ⟨A, m, c, ps, a5, no5, q5, rfl, hr6'.out, by (try rw [List.length_cons]); omega, HS6.out, by (try rw [List.length_cons]); omega, ?_⟩
    rcases hcs'.out with ⟨rfl, rfl, -, rfl⟩ | ⟨rfl, q, rfl, rfl⟩
    · have hR := h1'.out _ _ _ rfl hu'.out
      refine ⟨fun L q e => ?_, fun q e => by rw [hR] at e; cases e⟩
      rw [hR] at e
      injection e with e1 e2
      subst e1 e2
      exact ⟨rfl, rfl, rfl, rfl⟩
    · have hR := h3'.out _ rfl
      refine ⟨(fun L q' e => by rw [hR] at e; cases e), fun q' e => ?_⟩
      rw [hR] at e
      injection e with e
      subst e
      exact ⟨rfl, rfl⟩

/-- A node ahead of what was parsed. -/
theorem ahead {b base : Nat} {en at_ : Int} {r : List Tok} {R0 R : PR} {w w3 : World} {x : Nd} {A3 : Option Addr} {m c3 : Nat} {ps : List NP} {at5 no5 : Int} {ts5 : List Tok}
    (hg : NOwn b base w3 A3 (1 + m) c3 (⟨x, none, 0, 0⟩ :: ps)) (hb : w.heap.size ≤ base) (hS : PSt w3 b en at5 no5 ts5) (hm : m ≤ r.length) (ht : ts5.length ≤ r.length)
    (hcs : (no5 = 0 ∧ at5 = at_ ∧ m + ts5.length ≤ r.length ∧ R0 = .ok (ps.map NP.x) ts5) ∨ (no5 = 140 ∧ ∃ q, R0 = .bad q ∧ at5 = headAt en q))
    (hok : ∀ L q, R0 = .ok L q → R = .ok (x :: L) q) (hbad : ∀ q, R0 = .bad q → R = .bad q) : PAns b w.heap.size en at_ (r.length + 1) R (.returned (.slice A3 (1 + m) c3)) w3 := by
  refine ⟨A3, 1 + m, c3, _, at5, no5, ts5, rfl, hg.less hb, by omega, hS, by omega, ?_⟩
  rcases hcs with ⟨rfl, rfl, -, rfl⟩ | ⟨rfl, q, rfl, rfl⟩
  · have hR := hok _ _ rfl
    refine ⟨fun L q e => ?_, fun q e => by rw [hR] at e; cases e⟩
    rw [hR] at e
    injection e with e1 e2
    subst e1 e2
    exact ⟨rfl, rfl, rfl, rfl⟩
  · have hR := hbad _ rfl
    refine ⟨(fun L q' e => by rw [hR] at e; cases e), fun q' e => ?_⟩
    rw [hR] at e
    injection e with e
    subst e
    exact ⟨rfl, rfl⟩

set_option maxHeartbeats 8000000 in
set_option maxRecDepth 100000 in
theorem item_not {b : Nat} {en at_ : Int} {t : Tok} {r : List Tok} {n : Nat} {R0 R : PR} {w : World} (hk : t.kind = 5) (H : PSt w b en at_ 0 (t :: r)) (hI : PCon b en at_ 74 (itemR n)) (h0 : itemR n r R0) (hN : r.length ≤ 100000)
    (hok : ∀ L q, R0 = .ok L q → R = .ok (⟨4, 0, [], 0⟩ :: L) q) (hbad : ∀ q, R0 = .bad q → R = .bad q) :
    Calls Try.prog 74 #[.pointer (some ⟨b, 0, none⟩)] w fun e w' => PAns b w.heap.size en at_ (r.length + 1) R e w' ∧ Chg (One b) w w' := by
  have HS0 := hid H
  have hC0 := hid (Chg.refl (One b) w)
  have hb0 : b < w.heap.size := by obtain ⟨_, _, _, _, h1, _⟩ := H; exact h1.lt
  clear H
  have hI' := hid hI
  have h0' := hid h0
  have hok' := hid hok
  have hbad' := hid hbad
  have hN' := hid hN
  have hk' := hid hk
  clear hk hI h0 hok hbad hN
  go_enter Try.func74, Try.ntmps74
  go_wp2_with fail
  refine (nextS_yes (k := 5) HS0.out hk'.out).mono ?_
  rintro e w1 ⟨A1, l1, c1, rfl, hP, hPl, hS, hc1⟩
  have HS1 := hid (hS.calm ((Chg.refl Nothing w1).alloc (.cells #[.int .i64 5, .int .i64 t.at_, .int .i64 t.n, .slice A1 l1 c1] 76)))
  have hC1 := hid ((hC0.out.trans hc1).alloc (.cells #[.int .i64 5, .int .i64 t.at_, .int .i64 t.n, .slice A1 l1 c1] 76))
  have hb1 : b < w1.heap.size := Nat.lt_of_lt_of_le (by first | exact hb0 | (rw [World.size_alloc]; omega)) hc1.size
  clear hc1 HS0 hC0 hS
  clear hP hPl
  have hG := hid (nown_one (b := b) (W := w1.alloc (.cells #[.int .i64 5, .int .i64 t.at_, .int .i64 t.n, .slice A1 l1 c1] 76)) ⟨⟨4, 0, [], 0⟩, none, 0, 0⟩ ⟨RowAt.none _ _ _, rfl⟩)
  have hX := hid ((Chg.refl Nothing (w1.alloc (.cells #[.int .i64 5, .int .i64 t.at_, .int .i64 t.n, .slice A1 l1 c1] 76))).alloc (.cells #[.int .i64 4, .int .i64 0, .slice none 0 0, .int .i64 0] 40))
  go_wp2_with fail
  refine (hI'.out _ _ _ h0'.out hN'.out (HS1.out.calm hX.out)).mono ?_
  rintro e w2 ⟨hA, hc2⟩
  obtain ⟨A, m, c, ps, a5, no5, ts5, rfl, hr, hS, hm, ht, hcs⟩ := pans_sizes (N := 0) hA (fine_item n _ _ h0'.out)
  have hG2 := hid (hG.out.keep (by rw [World.size_alloc]; omega) hc2)
  have hr2 := hid hr
  have hS2 := hid hS
  have hcs2 := hid hcs
  have hC2 := hid ((hC1.out.trans (hX.out.mono (fun _ _ h => h.elim))).trans hc2)
  have hz1 : w.heap.size ≤ w1.heap.size + 1 := by have := hC1.out.size; rw [World.size_alloc] at this; exact this
  have hz2 : w1.heap.size + 2 ≤ w2.heap.size := by have := hc2.size; rw [World.size_alloc, World.size_alloc] at this; exact this
  rw [World.size_alloc] at hG2
  clear hG hX hr hS hcs hA hc2 hC1 HS1
  go_wp2_with (at_builtin; refine append_gen (o := ⟨some 24, _, _, _, _, _⟩) rfl _ _ 23 rfl (w1.heap.size + 1) 40 (.agg #[.int .i64 0, .int .i64 0, .slice none 0 0, .int .i64 0]) 4 48 Try.underlying23 infoNd rfl (by decide) _ _ 1 _ rfl hG2.out.own A m c _ rfl hr2.out.row.row.len hr2.out.row.row.nil hr2.out.row.row.le (rowAt_news hr2.out.row.row) (flat_one ndL ndL_one _) ?_ ?_ ?_ ?_)
  · have := hN'.out; unfold maxLen; omega
  · have := hN'.out; omega
  · omega
  · intro A3 c3 w3 hown hc3; intros
    have hcB : ∀ k, k < b → ¬ Of (some ⟨w1.heap.size + 1, 0, none⟩) k := fun k hk ⟨a, e, hk'⟩ => by injection e with e; subst e; simp only at hk'; omega
    have hgn := hid (NOwn.mk (b := b) (base := w1.heap.size + 1) (ps := ⟨⟨4, 0, [], 0⟩, none, 0, 0⟩ :: ps) (by rw [List.length_cons, hr2.out.len]; omega) hown (fun p hp => by
      rw [List.mem_cons] at hp
      rcases hp with rfl | hp
      · exact ⟨RowAt.none _ _ _, rfl⟩
      · exact (hr2.out.els p hp).chg hc3 (fun k _ hk => hcB k hk)))
    have hS3 := hid (hS2.out.apart hc3 hcB (hcB' := fun ⟨a, e, hk'⟩ => by injection e with e; subst e; simp only at hk'; omega))
    have hC3 := hid (hC2.out.then hc3 (fun k hk ⟨a, e, hk'⟩ => by injection e with e; subst e; simp only at hk'; omega))
    clear hown hc3 hcB
    go_wp2
    refine bodyPost_ret (v := .slice A3 (1 + m) c3) (by simp [results, Try.results74, go_sem]) rfl ⟨ahead hgn.out hz1 hS3.out hm ht hcs2.out hok'.out hbad'.out, hC3.out⟩

end Go.Proofs.Ytllblpiakijpaaa

/- Layer 14: the parser's item at a Shift. (Printed by wip/gen/gen_qo.py.) -/
namespace Go.Proofs.Ytllblpiakijpaaa
open Go.RowKit
set_option linter.unusedVariables false

set_option maxHeartbeats 8000000 in
set_option maxRecDepth 100000 in
theorem item_shift {b : Nat} {en at_ : Int} {t : Tok} {r : List Tok} {n : Nat} {R0 R : PR} {w : World} (hk : t.kind = 6) (H : PSt w b en at_ 0 (t :: r)) (hI : PCon b en at_ 74 (itemR n)) (h0 : itemR n r R0) (hN : r.length ≤ 100000)
    (hok : ∀ L q, R0 = .ok L q → R = .ok (⟨5, t.n, [], 0⟩ :: L) q) (hbad : ∀ q, R0 = .bad q → R = .bad q) :
    Calls Try.prog 74 #[.pointer (some ⟨b, 0, none⟩)] w fun e w' => PAns b w.heap.size en at_ (r.length + 1) R e w' ∧ Chg (One b) w w' := by
  have HS0 := hid H
  have hC0 := hid (Chg.refl (One b) w)
  have hb0 : b < w.heap.size := by obtain ⟨_, _, _, _, h1, _⟩ := H; exact h1.lt
  clear H
  have hI' := hid hI
  have h0' := hid h0
  have hok' := hid hok
  have hbad' := hid hbad
  have hN' := hid hN
  have hk' := hid hk
  have g5 := hid (head_ne (r := r) (t := t) (k := 5) (by omega))
  clear hk hI h0 hok hbad hN
  go_enter Try.func74, Try.ntmps74
  go_wp2_with fail
  refine (nextS_no (k := 5) HS0.out (g5.out)).mono ?_
  rintro e w1 ⟨rfl, hc1⟩
  have HS1 := hid ((HS0.out.calm hc1).calm ((Chg.refl Nothing w1).alloc (.cells #[.int .i64 0, .int .i64 0, .int .i64 0, .slice none 0 0] 76)))
  have hC1 := hid ((hC0.out.trans (hc1.mono (fun _ _ h => h.elim))).alloc (.cells #[.int .i64 0, .int .i64 0, .int .i64 0, .slice none 0 0] 76))
  have hb1 : b < w1.heap.size := Nat.lt_of_lt_of_le (by first | exact hb0 | (rw [World.size_alloc]; omega)) hc1.size
  clear hc1 HS0 hC0
  go_wp2_with fail
  refine (nextS_yes (k := 6) HS1.out hk'.out).mono ?_
  rintro e w2 ⟨A1, l1, c1, rfl, hP, hPl, hS, hc2⟩
  have HS2 := hid (hS.calm ((Chg.refl Nothing w2).alloc (.cells #[.int .i64 6, .int .i64 t.at_, .int .i64 t.n, .slice A1 l1 c1] 76)))
  have hC2 := hid ((hC1.out.trans hc2).alloc (.cells #[.int .i64 6, .int .i64 t.at_, .int .i64 t.n, .slice A1 l1 c1] 76))
  have hb2 : b < w2.heap.size := Nat.lt_of_lt_of_le (by first | exact hb1 | (rw [World.size_alloc]; omega)) hc2.size
  clear hc2 HS1 hC1 hS
  clear hP hPl
  have hzz : w.heap.size ≤ w2.heap.size + 1 := by have := hC2.out.size; rw [World.size_alloc] at this; exact this
  have hTB := hid (Blk.new w2 #[.int .i64 6, .int .i64 t.at_, .int .i64 t.n, .slice A1 l1 c1] 76)
  obtain ⟨W, hW⟩ : ∃ W, W = w2.alloc (.cells #[.int .i64 6, .int .i64 t.at_, .int .i64 t.n, .slice A1 l1 c1] 76) := ⟨_, rfl⟩
  have hWs : w2.heap.size < W.heap.size := by rw [hW, World.size_alloc]; exact Nat.lt_succ_self _
  replace hzz : w.heap.size ≤ W.heap.size := by rw [hW, World.size_alloc]; exact hzz
  rw [← hW] at HS2 hC2 hTB
  have z2 := hTB.out.cell 2 (v := .int .i64 t.n) rfl
  go_wp2_with fail
  rw [← hW]
  replace hW := hid hW
  have hS := hid (fun (n : World) (hc : Chg (One b) W n) => (hTB.out.chg hc (by unfold One; omega)).cell 2 (v := .int .i64 t.n) rfl)
  have hd := hid ((Chg.refl (One b) W).drew)
  have hd2 := hid (((Chg.refl (One b) W).alloc (.cells #[.int .i64 5, .int .i64 t.n, .slice none 0 0, .int .i64 0] 40)).drew)
  have hdn := hid ((Chg.refl Nothing W).drew)
  have hCall := hid (fun (w' : World) (h : PSt w' b en at_ 0 r) => hI'.out _ _ w' h0'.out hN'.out h)
  have hG1 := hid (nown_one (b := b) (W := W) ⟨⟨5, t.n, [], 0⟩, none, 0, 0⟩ ⟨RowAt.none _ _ _, rfl⟩)
  have hG2 := hid (fun (w' : World) => nown_one (b := b) (W := w') ⟨⟨5, t.n, [], 0⟩, none, 0, 0⟩ ⟨RowAt.none _ _ _, rfl⟩)
  have hm63 : ∀ m, m ≤ r.length → 1 + m ≤ maxLen := fun m hm => by have := hN'.out; unfold maxLen; omega
  have hm48 : ∀ m, m ≤ r.length → (1 + m) * 48 ≤ 140737488355328 := fun m hm => by have := hN'.out; omega
  have hbW : b < W.heap.size := by omega
  go_region_held3 (fun w' => w'.cell? ⟨w2.heap.size, 2, none⟩ = some (.int .i64 t.n))
    (first | exact hS.out _ hd.out | exact hS.out _ ((hd.out.trans hc3).alloc _) | exact hS.out _ (((hd.out.trans hc3).alloc _).then hc4 (fun k hk ⟨a, e, hk'⟩ => by injection e with e; subst e; simp only at hk'; have := hc3.size; exact absurd hk (by have h9 : W.heap.size ≤ w3.heap.size := hc3.size; omega))) | exact hS.out _ (hd.out.alloc _) | exact hS.out _ (hd.out.trans hc3) | exact hS.out _ hd2.out | exact hS.out _ (hd2.out.trans hc3) | exact hS.out _ ((hd2.out.trans hc3).then hc4 (fun k hk ⟨a, e, hk'⟩ => by injection e with e; subst e; simp only at hk'; omega)))
    (first
    | (go_at_call 74; (refine (hCall.out _ (by first | exact HS2.out.calm ((Chg.refl Nothing W).alloc _).drew | exact HS2.out.calm hdn.out | exact HS2.out.calm (hdn.out.alloc _))).mono ?_); rintro e w3 ⟨hA, hc3⟩; obtain ⟨A, m, c, ps, a5, no5, ts5, rfl, hr, hSt, hm, ht, hcs⟩ := pans_sizes (N := 0) hA (fine_item n _ _ h0'.out))
    | (refine step_append_gen (o := ⟨some 37, _, _, _, _, _⟩) rfl _ _ 23 rfl W.heap.size 40 (.agg #[.int .i64 0, .int .i64 0, .slice none 0 0, .int .i64 0]) 4 48 Try.underlying23 infoNd rfl (by decide) _ _ 1 _ rfl ((hG1.out.calm (Chg.refl Nothing _).drew).keep hbW hc3).own A m c _ rfl hr.row.row.len hr.row.row.nil hr.row.row.le (rowAt_news hr.row.row) (flat_one ndL ndL_one _) (hm63 m hm) (hm48 m hm) (Nat.le_trans (((Chg.refl Nothing W).alloc _).drew).size hc3.size) ?_; intro A3 c3 w4 hown hc4; intros)
    | (refine step_append_gen (o := ⟨some 37, _, _, _, _, _⟩) rfl _ _ 23 rfl w3.heap.size 40 (.agg #[.int .i64 0, .int .i64 0, .slice none 0 0, .int .i64 0]) 4 48 Try.underlying23 infoNd rfl (by decide) _ _ 1 _ rfl (hG2.out w3).own A m c _ rfl hr.row.row.len hr.row.row.nil hr.row.row.le (rowAt_news (hr.row.row.chg ((Chg.refl Nothing w3).alloc _) (fun _ _ _ h => h))) (flat_one ndL ndL_one _) (hm63 m hm) (hm48 m hm) (((Chg.refl Nothing w3).alloc _)).size ?_; intro A3 c3 w4 hown hc4; intros))
  · have hcB : ∀ k, k < b → ¬ Of (some ⟨W.heap.size, 0, none⟩) k := fun k hk ⟨a, e, hk'⟩ => by injection e with e; subst e; simp only at hk'; omega
    have hgn := hid (NOwn.mk (b := b) (base := W.heap.size) (ps := ⟨⟨5, t.n, [], 0⟩, none, 0, 0⟩ :: ps) (by rw [List.length_cons, hr.len]; omega) hown (fun p hp => by
      rw [List.mem_cons] at hp
      rcases hp with rfl | hp
      · exact ⟨RowAt.none _ _ _, rfl⟩
      · exact (hr.els p hp).chg hc4 (fun k _ hk => hcB k hk)))
    have hS3 := hid (hSt.apart hc4 hcB (hcB' := fun ⟨a, e, hk'⟩ => by injection e with e; subst e; simp only at hk'; omega))
    have hC3 := hid ((hC2.out.trans (hd2.out.trans hc3)).then hc4 (fun k hk ⟨a, e, hk'⟩ => by injection e with e; subst e; simp only at hk'; omega))
    have hcs' := hid hcs
    clear hown hc4 hcB hcs hA hc3 hr hSt
    go_wp2
    refine bodyPost_ret (v := .slice A3 (1 + m) c3) (by simp [results, Try.results74, go_sem]) rfl ⟨ahead hgn.out hzz hS3.out hm ht hcs'.out hok'.out hbad'.out, hC3.out⟩
  · have hz3 : W.heap.size ≤ w3.heap.size := hc3.size
    have hcB : ∀ k, k < b → ¬ Of (some ⟨w3.heap.size, 0, none⟩) k := fun k hk ⟨a, e, hk'⟩ => by injection e with e; subst e; simp only at hk'; omega
    have hgn := hid (NOwn.mk (b := b) (base := w3.heap.size) (ps := ⟨⟨5, t.n, [], 0⟩, none, 0, 0⟩ :: ps) (by rw [List.length_cons, hr.len]; omega) hown (fun p hp => by
      rw [List.mem_cons] at hp
      rcases hp with rfl | hp
      · exact ⟨RowAt.none _ _ _, rfl⟩
      · exact ((hr.calm ((Chg.refl Nothing w3).alloc _)).els p hp).chg hc4 (fun k _ hk => hcB k hk)))
    have hS3 := hid ((hSt.calm ((Chg.refl Nothing w3).alloc _)).apart hc4 hcB (hcB' := fun ⟨a, e, hk'⟩ => by injection e with e; subst e; simp only at hk'; omega))
    have hC3 := hid (((hC2.out.trans (hd.out.trans hc3)).alloc _).then hc4 (fun k hk ⟨a, e, hk'⟩ => by injection e with e; subst e; simp only at hk'; omega))
    have hcs' := hid hcs
    have hzz' := Nat.le_trans hzz hz3
    clear hown hc4 hcB hcs hA hc3 hr hSt
    go_wp2
    refine bodyPost_ret (v := .slice A3 (1 + m) c3) (by simp [results, Try.results74, go_sem]) rfl ⟨ahead hgn.out hzz' hS3.out hm ht hcs'.out hok'.out hbad'.out, hC3.out⟩

end Go.Proofs.Ytllblpiakijpaaa

/- Layer 14: the parser whole: part, query, item. -/
namespace Go.Proofs.Ytllblpiakijpaaa
open Go.RowKit
set_option linter.unusedVariables false
theorem enter_item : ∀ args w, (callFunc 74 args).run Try.prog w = .ok (.enter 74 args) w := fun _ _ => by kernel_rfl
theorem enter_part : ∀ args w, (callFunc 51 args).run Try.prog w = .ok (.enter 51 args) w := fun _ _ => by kernel_rfl
theorem pans_ret {b base N : Nat} {en at_ : Int} {R : PR} {e : Ending} {w : World} (h : PAns b base en at_ N R e w) : ∃ v, e = .returned v ∧ ∃ A n c, v = .slice A n c := by
  obtain ⟨A, n, c, ps, at', no', ts', he, _⟩ := h
  exact ⟨_, he, A, n, c, rfl⟩
set_option maxHeartbeats 4000000 in
set_option maxRecDepth 100000 in
theorem part_any {b n : Nat} {en at_ : Int} (hI : PCon b en at_ 74 (itemR n)) : PCon b en at_ 51 (partR n) := by
  intro ts R w hR hN H
  have hc := hid (chain_any 3 2 enter_item hI (fine_item n) hR hN H)
  clear hI hR hN H
  go_enter Try.func51, Try.ntmps51
  go_wp2_with fail
  refine (hc.out).mono ?_
  rintro e w1 ⟨hA, hc1⟩
  obtain ⟨v, rfl, A, m, c, rfl⟩ := pans_ret hA
  have hF := hid (And.intro hA hc1)
  clear hA hc1 hc
  go_wp2
  refine bodyPost_ret (v := .slice A m c) (by simp [results, Try.results51, go_sem]) rfl hF.out
set_option maxHeartbeats 4000000 in
set_option maxRecDepth 100000 in
theorem query_any {b n : Nat} {en at_ : Int} (hI : PCon b en at_ 51 (partR n)) : PCon b en at_ 29 (queryR n) := by
  intro ts R w hR hN H
  have hc := hid (chain_any 4 3 enter_part hI (fun _ _ h => fine_part n h) hR hN H)
  clear hI hR hN H
  go_enter Try.func29, Try.ntmps29
  go_wp2_with fail
  refine (hc.out).mono ?_
  rintro e w1 ⟨hA, hc1⟩
  obtain ⟨v, rfl, A, m, c, rfl⟩ := pans_ret hA
  have hF := hid (And.intro hA hc1)
  clear hA hc1 hc
  go_wp2
  refine bodyPost_ret (v := .slice A m c) (by simp [results, Try.results29, go_sem]) rfl hF.out
theorem item_any {b : Nat} {en at_ : Int} (n : Nat) : PCon b en at_ 74 (itemR n) := by
  induction n with
  | zero => intro ts R w hR; exact hR.elim
  | succ n ih =>
    have hq := query_any (part_any ih)
    intro ts R w hR hN H
    rw [itemR_succ] at hR
    cases hR with
    | @notOk t r q L h k => exact item_not h H ih k (by simp at hN; omega) (fun L' q' e => by injection e with e1 e2; subst e1 e2; rfl) (fun q' e => by cases e)
    | @notBad t r q h k => exact item_not h H ih k (by simp at hN; omega) (fun L' q' e => by cases e) (fun q' e => by injection e with e1; subst e1; rfl)
    | @shiftOk t r q L h k => exact item_shift h H ih k (by simp at hN; omega) (fun L' q' e => by injection e with e1 e2; subst e1 e2; rfl) (fun q' e => by cases e)
    | @shiftBad t r q h k => exact item_shift h H ih k (by simp at hN; omega) (fun L' q' e => by cases e) (fun q' e => by injection e with e1; subst e1; rfl)
    | @fuzzBad t u r h hu hn =>
      have := item_pat H h
      unfold findR at this
      simp only at this
      rwa [if_pos hu, if_pos hn] at this
    | @fuzz t u r h hu hn =>
      have := item_pat H h
      unfold findR at this
      simp only at this
      rwa [if_pos hu, if_neg (by omega)] at this
    | @pat t r h hr =>
      have := item_pat H h
      cases r with
      | nil => exact this
      | cons u r =>
        unfold findR at this
        simp only at this
        rwa [if_neg (hr u r rfl)] at this
    | @openOk t u r q L h k hu => exact item_open H h hq k (by simp at hN; omega) (fun L' u' q' e _ => by injection e with e1 e2; injection e2 with e2 e3; subst e1 e3; rfl) (fun L' q' e hh => by injection e with e1 e2; exact absurd hu (hh u q (by rw [← e2]))) (fun q' e => by cases e)
    | @openBad t r q h k => exact item_open H h hq k (by simp at hN; omega) (fun L' u' q' e _ => by cases e) (fun L' q' e hh => by cases e) (fun q' e => by injection e with e1; subst e1; rfl)
    | @openMiss t r q L h k hm => exact item_open H h hq k (by simp at hN; omega) (fun L' u' q' e hu => by injection e with e1 e2; exact absurd hu (hm u' q' e2)) (fun L' q' e hh => by injection e with e1 e2; subst e2; rfl) (fun q' e => by cases e)
    | other h5 h6 h8 h1 => exact item_other H h5 h6 h8 h1
theorem parse_query {b : Nat} {en at_ : Int} (n : Nat) : PCon b en at_ 29 (queryR n) := query_any (part_any (item_any n))
end Go.Proofs.Ytllblpiakijpaaa
