/- Layer 13: rows of tokens; the document's Lex. -/
import Derived.Test.YtpndjehiacmngaaTokV
namespace Go.Proofs.Ytpndjehiacmngaa
open Go.RowKit
set_option linter.unusedVariables false
attribute [local go_sem ↓] Go.wp_at_zero Go.wp_at_succ
/-- A token, and where its elements lie. -/
structure TP where
  t : Tok
  A : Option Addr
  l : Nat
  c : Nat
def tpL (p : TP) : List Value := [.int .i64 p.t.kind, .int .i64 p.t.at_, .int .i64 p.t.n, .slice p.A p.l p.c]
theorem tpL_len (p : TP) : (tpL p).length = 4 := rfl
theorem tpL_one (p : TP) : ∀ u ∈ tpL p, u.oneCell' = true := by intro u hu; unfold tpL at hu; simp at hu; rcases hu with rfl | rfl | rfl | rfl <;> rfl
structure PRead (F : Nat → Prop) (w : World) (p : TP) : Prop where
  row : RowAt 4 F w p.A p.l p.c (p.t.p.flatMap clsL)
  len : p.t.p.length = p.l
/-- A row of tokens of the call's own. -/
structure TRow (w : World) (base : Nat) (T : TypeId) (A : Option Addr) (n c : Nat) (ps : List TP) : Prop where
  len : ps.length = n
  own : w.ownsRow base T 4 (.slice A n c) n (ps.flatMap tpL)
  els : ∀ p ∈ ps, PRead (fun k => base ≤ k ∧ ¬ Of A k) w p
theorem TRow.nil (w : World) (base : Nat) (T : TypeId) : TRow w base T none 0 0 [] := ⟨rfl, World.ownsRow_nil _ _ _ _, fun p h => by simp at h⟩
theorem TRow.chg {S : Nat → Prop} {w w' : World} {base : Nat} {T : TypeId} {A : Option Addr} {n c : Nat} {ps : List TP} (h : TRow w base T A n c ps) (hc : Chg S w w') (hS : ∀ k, base ≤ k → k < w.heap.size → ¬ S k) : TRow w' base T A n c ps :=
  ⟨h.len, own_chg h.own hc (fun k hk => by have := own_of h.own k hk; exact hS k this.1 this.2), fun p hp => ⟨(h.els p hp).row.chg hc (fun k hk hF => hS k hF.1 hk), (h.els p hp).len⟩⟩
theorem infoTk : (Try.prog.info? 42).map (fun i => (i.zero, i.size, i.bytes)) = some (some (.agg #[.int .i64 0, .int .i64 0, .int .i64 0, .slice none 0 0]), 4, 48) := by kernel_rfl
/-- One more token. -/
theorem TRow.snoc {w w1 w2 : World} {base : Nat} {T : TypeId} {A A' : Option Addr} {n c c' : Nat} {ps : List TP} (h : TRow w base T A n c ps) (p : TP) (b1 : Nat)
    (hc : Chg Nothing w w1) (hb1 : w.heap.size ≤ b1) (hbase : base ≤ b1) (hp : PRead (fun k => b1 ≤ k) w1 p)
    (hown : w2.ownsRow base T 4 (.slice A' (n + 1) c') (n + 1) (ps.flatMap tpL ++ tpL p)) (hc2 : Chg (Of A) w1 w2) (hA : ∀ k, Of A' k → Of A k ∨ w1.heap.size ≤ k) :
    TRow w2 base T A' (n + 1) c' (ps ++ [p]) := by
  have oa := own_of h.own
  refine ⟨by rw [List.length_append, h.len]; rfl, by rw [List.flatMap_append]; simpa using hown, fun q hq => ?_⟩
  rw [List.mem_append] at hq
  rcases hq with hq | hq
  · have e := h.els q hq
    refine ⟨?_, e.len⟩
    have r1 := e.row.chg hc (fun _ _ _ h => h)
    have r2 := r1.mono (G := fun k => base ≤ k ∧ ¬ Of A k ∧ k < w1.heap.size) (fun k hk hF => ⟨hF.1, hF.2, hk⟩)
    have r3 := r2.chg hc2 (fun k hk hF => hF.2.1)
    exact r3.mono (fun k hk hF => ⟨hF.1, fun hA' => by rcases hA k hA' with h1 | h1; exact hF.2.1 h1; have := hF.2.2; omega⟩)
  · simp at hq; subst hq
    refine ⟨?_, hp.len⟩
    have r2 := hp.row.mono (G := fun k => b1 ≤ k ∧ k < w1.heap.size) (fun k hk hF => ⟨hF, hk⟩)
    have r3 := r2.chg hc2 (fun k hk hF hOf => by have := oa k hOf; omega)
    exact r3.mono (fun k hk hF => ⟨by omega, fun hA' => by rcases hA k hA' with h1 | h1; have := oa k h1; omega; omega⟩)
/-- What Lex answers of a text. -/
def lexS (s : ByteArray) (R : Rd (List Tok)) : Prop := if 1000 < s.size then R = .bad 1000 135 else LexRun s 0 [] R
def LexAns (T : TypeId) (R : Rd (List Tok)) (w : World) (e : Ending) (w' : World) : Prop :=
  ∃ (A : Option Addr) (n c : Nat) (ps : List TP), e = .returned (.tuple #[.slice A n c, .int .i64 (R.at_ : Nat), .int .i64 R.no]) ∧ TRow w' w.heap.size T A n c ps ∧ (∀ l nx, R = .ok l nx → ps.map TP.t = l) ∧ (R.no ≠ 0 → ps = []) ∧ Chg Nothing w w'
theorem numS_placed (s : ByteArray) (a m : Nat) (ha : a ≤ s.size) (h : DigRun s a m) : Placed s a (numS s a m) ∨ (∃ v, numS s a m = .ok v (a + m) ∧ 0 < m ∧ a + m ≤ s.size) := by
  unfold numS
  by_cases hc : m = 0 ∨ (byteAt s a = 48 ∧ 1 < m) ∨ 1000000 < valD s a m
  · left; rw [if_pos hc]; exact ⟨by simp only [Rd.at_]; omega, fun h => by simp only [Rd.no] at h; omega, fun _ => by simp only [Rd.no]; omega⟩
  · right; rw [if_neg hc]
    have hm : 0 < m := by omega
    have := h.yes (m - 1) (by omega)
    unfold isDig at this
    exact ⟨_, rfl, hm, by omega⟩
theorem TokRd.placed {s : ByteArray} {a : Nat} {R : Rd Tok} (h : TokRd s a R) (ha : a < s.size) : Placed s a R := by
  cases h with
  | pat h k => have := k.placed (show a + 1 ≤ s.size by omega); exact Rd.map_placed ⟨this.le, fun h => by have := this.lt h; omega, this.ok⟩
  | none h h1 => exact ⟨by simp only [Rd.at_]; omega, fun h => by simp only [Rd.no] at h; omega, fun _ => by simp only [Rd.no]; omega⟩
  | sign h h1 h2 h3 => exact ⟨by simp only [Rd.at_]; omega, fun _ => by simp only [Rd.at_]; omega, fun h => absurd rfl (h _ _)⟩
  | num h h1 h2 h3 =>
    rcases numS_placed s (a + 1) _ (by omega) h3 with h4 | ⟨v, h4, h5, h6⟩
    · exact Rd.map_placed ⟨h4.le, fun h => by have := h4.lt h; omega, h4.ok⟩
    · rw [h4]; exact ⟨h6, fun _ => by simp only [Rd.at_, Rd.map]; omega, fun h => absurd rfl (h _ _)⟩
theorem LexRun.placed {s : ByteArray} {a : Nat} {l : List Tok} {R : Rd (List Tok)} (h : LexRun s a l R) : R.at_ ≤ s.size ∧ ((∀ v nx, R ≠ .ok v nx) → R.no ≠ 0) ∧ ((∃ v nx, R = .ok v nx) → R.at_ = s.size) := by
  induction h with
  | stop h => exact ⟨Nat.le_refl _, fun h => absurd rfl (h _ _), fun _ => rfl⟩
  | blank h hb k ih => exact ih
  | bad h hb k => have := k.placed h; exact ⟨this.le, fun _ => this.ok (fun v nx h => by cases h), fun ⟨v, nx, h⟩ => by cases h⟩
  | step h hb k r ih => exact ih
def RlInv (s : ByteArray) (w : World) (R : Rd (List Tok)) (pt ov : Value) (wr : World) : Prop :=
  ∃ (k : Nat) (ps : List TP) (A : Option Addr) (n c : Nat), k ≤ s.size ∧ n ≤ k ∧ pt = .int .i64 k ∧ ov = .slice A n c ∧ LexRun s k (ps.map TP.t) R ∧ Hid (TRow wr w.heap.size 42 A n c ps) ∧ Chg Nothing w wr
set_option maxHeartbeats 8000000 in
set_option maxRecDepth 100000 in
theorem refLex_any (s : ByteArray) (R : Rd (List Tok)) (hR : lexS s R) (w : World) (hs : s.size ≤ 9223372036854775000) :
    Calls Try.prog 11 #[.string s] w (LexAns 42 R w) := by
  unfold lexS at hR
  by_cases hbig : 1000 < s.size
  · rw [if_pos hbig] at hR
    subst hR
    have hbi : (1000 : Int) < (s.size : Int) := by omega
    go_enter Try.func11, Try.ntmps11
    go_wp2
    go_ret3
    exact ⟨none, 0, 0, [], rfl, TRow.nil _ _ _, (fun l nx h => by cases h), (fun _ => rfl), Chg.refl _ _⟩
  · rw [if_neg hbig] at hR
    have hbi : ¬ (1000 : Int) < (s.size : Int) := by omega
    have hR := hid hR
    go_enter Try.func11, Try.ntmps11
    go_wp2_with fail
    go_loopw [6, 5] (fun pt ov wr => RlInv s w R pt ov wr) (fun pt _ _ => s.size - (intOf pt).toNat)
    case atStart => exact ⟨0, [], none, 0, 0, by omega, by omega, rfl, rfl, hR.out, hid (TRow.nil _ _ _), Chg.refl _ _⟩
    case round =>
      clear hR
      obtain ⟨k, ps, A, n, c, hk, hn, rfl, rfl, hrun, HT, hchg⟩ := hrel
      have hpl := hrun.placed
      cases hrun with
      | stop h =>
        have hd : decide ((k : Int) < (s.size : Int)) = false := decide_eq_false (by omega)
        go_wp2
        go_ret3
        exact ⟨A, n, c, ps, rfl, HT.out, (fun l nx h => by injection h), (fun h => absurd rfl h), hchg⟩
      | blank h hb r =>
        have hd : decide ((k : Int) < (s.size : Int)) = true := decide_eq_true (by omega)
        have hg := byteAt_eq h
        have hd2 : (((byteAt s k : Nat) : Int) == 32) = true := beq_iff_eq.2 (by omega)
        replace hb := hid hb
        replace hpl := hid hpl
        go_wp2
        go_roundw
        case rel => exact ⟨k + 1, ps, A, n, c, by omega, by omega, by go_num, rfl, r, HT, hchg⟩
        case measure => simp [intOf]; omega
      | @bad _ _ p e0 h hb r =>
        have hd : decide ((k : Int) < (s.size : Int)) = true := decide_eq_true (by omega)
        have hg := byteAt_eq h
        have hd2 : (((byteAt s k : Nat) : Int) == 32) = false := by rw [beq_eq_false_iff_ne]; omega
        have hne := hpl.2.1 (fun v nx h => by cases h)
        simp only [Rd.no] at hne
        have hne1 : (e0 == 0) = false := beq_eq_false_iff_ne.2 hne
        have hne2 : (e0 != 0) = true := by rw [bne_iff_ne]; exact hne
        replace hb := hid hb
        replace hpl := hid hpl
        go_wp2_with fail
        refine (refOne_any s k _ r _ hs h).mono ?_
        rintro e w1 ⟨kd, at_, nn, A1, l1, c1, B, x, A2, l2, c2, N, rfl, hx, hc⟩
        clear hx
        simp only [Rd.at_, Rd.no]
        have hC1 := hchg.trans hc
        have hs1 := hc.size
        clear hc hchg
        go_wp2_with fail
        go_quiet (fail)
        go_wp2
        go_ret3
        exact ⟨none, 0, 0, [], rfl, TRow.nil _ _ _, (fun l nx h => by cases h), (fun _ => rfl), by repeat (first | with_reducible exact hC1 | with_reducible refine Chg.drewN ?_ _ | with_reducible refine Chg.drew ?_ | with_reducible refine Chg.alloc ?_ _)⟩
      | @step _ _ t b _ h hb r rr =>
        have hd : decide ((k : Int) < (s.size : Int)) = true := decide_eq_true (by omega)
        have hg := byteAt_eq h
        have hd2 : (((byteAt s k : Nat) : Int) == 32) = false := by rw [beq_eq_false_iff_ne]; omega
        have hpb := r.placed h
        have hb2 := hpb.lt rfl
        have hb3 := hpb.le
        simp only [Rd.at_] at hb2 hb3
        clear hpb
        replace hb := hid hb
        replace hpl := hid hpl
        go_wp2_with fail
        refine (refOne_any s k _ r _ hs h).mono ?_
        rintro e w1 ⟨kd, at_, nn, A1, l1, c1, B, x, A2, l2, c2, N, rfl, hx, hc⟩
        obtain ⟨rfl, rfl, rfl, hP⟩ := hx t b rfl
        simp only [Rd.at_, Rd.no]
        have hC1 := hid (hchg.trans hc)
        have hs1 := hc.size
        have HT1 := hid (HT.out.chg hc (fun _ _ _ h => h))
        have hbs := hid hchg.size
        have hP1 : Hid (PRead (fun k => wr.heap.size + 2 ≤ k) w1 ⟨t, A1, l1, c1⟩) := hid ⟨(RowAt.of_own hP.2).mono (fun k _ hF => hF.2), hP.1⟩
        have hcw := hid hc
        clear hc hchg hx hP
        go_wp2_with (at_builtin; (refine append_cells (w := (w1.alloc _).alloc _) rfl _ _ 27 rfl w.heap.size 42 (.agg #[.int .i64 0, .int .i64 0, .int .i64 0, .slice none 0 0]) 4 48 Try.underlying27 infoTk rfl (by decide) A c n _ rfl (own_chg HT1.out.own (((Chg.refl Nothing w1).alloc _).alloc _) (fun _ _ h => h)) (tpL ⟨t, A1, l1, c1⟩) (by rw [World.size_alloc, World.size_alloc]; rfl) rfl (tpL_one _) ?_ ?_ ?_ ?_))
        · omega
        · omega
        · simp only [World.size_alloc]; have := hbs.out; omega
        intro A' c' w6 hown6 hc6 hA
        have oa := own_of HT1.out.own
        have HX := (Blk.new2 w1 (.cells #[.int .i64 t.kind, .int .i64 t.at_, .int .i64 t.n, .slice A1 l1 c1] 42) #[.int .u8 B, .int .u64 (wd x 0), .int .u64 (wd x 1), .int .u64 (wd x 2), .int .u64 (wd x 3), .slice A2 l2 c2, .int .i64 N, .int .i64 b, .int .i64 0] 57).chg hc6 (fun h => by have := oa _ h; omega)
        have x7 := HX.cell 7 rfl
        have hown7 := hid hown6
        have hc7 := hid hc6
        have oa' := hid oa
        have hA7 := hid hA
        clear HX hown6 hc6 hA oa
        go_wp2
        go_roundw
        case rel =>
          refine ⟨b, ps ++ [⟨t, A1, l1, c1⟩], A', n + 1, c', hb3, by omega, rfl, rfl, by rw [List.map_append]; exact rr, hid (TRow.snoc HT.out ⟨t, A1, l1, c1⟩ (wr.heap.size + 2) ((hcw.out.alloc (.cells #[.int .i64 t.kind, .int .i64 t.at_, .int .i64 t.n, .slice A1 l1 c1] 42)).alloc (.cells #[.int .u8 B, .int .u64 (wd x 0), .int .u64 (wd x 1), .int .u64 (wd x 2), .int .u64 (wd x 3), .slice A2 l2 c2, .int .i64 N, .int .i64 b, .int .i64 0] 57)) (by omega) (by have := hbs.out; omega) ⟨(hP1.out.row.chg (((Chg.refl Nothing w1).alloc _).alloc _) (fun _ _ _ h => h)), hP1.out.len⟩ hown7.out hc7.out (fun k hk => by have := hA7.out k hk; simp only [World.size_alloc]; exact this)), ((hC1.out.alloc _).alloc _).then hc7.out (fun i hi h => by have := own_of HT.out.own _ h; omega)⟩
        case measure => simp [intOf]; omega
end Go.Proofs.Ytpndjehiacmngaa
