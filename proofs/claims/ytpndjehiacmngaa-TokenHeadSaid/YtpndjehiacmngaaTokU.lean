/- Layer 13: places of what is read; the document's pattern. -/
import Derived.Test.YtpndjehiacmngaaTokT
namespace Go.Proofs.Ytpndjehiacmngaa
open Go.RowKit
set_option linter.unusedVariables false
attribute [local go_sem ↓] Go.wp_at_zero Go.wp_at_succ
/-- What is read begins behind a; it ends in the text. -/
structure Placed {α : Type} (s : ByteArray) (a : Nat) (R : Rd α) : Prop where
  le : R.at_ ≤ s.size
  lt : R.no = 0 → a < R.at_
  ok : (∀ v nx, R ≠ .ok v nx) → R.no ≠ 0
theorem escS_placed (s : ByteArray) (a : Nat) (ha : a < s.size) : Placed s a (escS s a) := by
  cases h : escS s a with
  | ok v b => have := escS_ok h; exact ⟨this.2.1, fun _ => this.1, fun h => absurd rfl (h _ _)⟩
  | bad p e => have := escS_bad h; exact ⟨by simp only [Rd.at_]; omega, fun h => by simp only [Rd.no] at h; omega, fun _ => by simp only [Rd.no]; omega⟩
theorem oneS_placed (ap : ByteArray) (no : Int) (s : ByteArray) (a : Nat) (ha : a < s.size) (hn : no ≠ 0) : Placed s a (oneS ap no s a) := by
  cases h : oneS ap no s a with
  | ok v b => have := oneS_ok h ha; exact ⟨this.2.1, fun _ => this.1, fun h => absurd rfl (h _ _)⟩
  | bad p e => have := oneS_bad h hn; exact ⟨by simp only [Rd.at_]; omega, fun h => by simp only [Rd.no] at h; omega, fun _ => by simp only [Rd.no]; omega⟩
theorem ClassRun.placed {s : ByteArray} {a : Nat} {x : Cls} {n : Nat} {R : Rd (Cls × Nat)} (h : ClassRun s a x n R) : a ≤ s.size → Placed s a R := by
  induction h with
  | stop h hb => intro _; exact ⟨by simp only [Rd.at_]; omega, fun _ => by simp only [Rd.at_]; omega, fun h => absurd rfl (h _ _)⟩
  | bad1 h h1 => intro ha; have := itemS_bad h1 ha; exact ⟨by simp only [Rd.at_]; omega, fun h => by simp only [Rd.no] at h; omega, fun _ => by simp only [Rd.no]; omega⟩
  | one h h1 h2 k ih => intro ha; have h3 := itemS_ok h1; have := ih h3.2.1; exact ⟨this.le, fun h => by have := this.lt h; omega, this.ok⟩
  | bad2 h h1 h2 h3 => intro ha; have := itemS_bad h3 (by omega); exact ⟨by simp only [Rd.at_]; omega, fun h => by simp only [Rd.no] at h; omega, fun _ => by simp only [Rd.no]; omega⟩
  | less h h1 h2 h3 h4 => intro ha; exact ⟨by simp only [Rd.at_]; omega, fun h => by simp only [Rd.no] at h; omega, fun _ => by simp only [Rd.no]; omega⟩
  | two h h1 h2 h3 h4 k ih => intro ha; have h5 := itemS_ok h1; have h6 := itemS_ok h3; have := ih h6.2.1; exact ⟨this.le, fun h => by have := this.lt h; omega, this.ok⟩
theorem beginS_le (s : ByteArray) (op : Nat) (h : op < s.size) : op < beginS s op ∧ beginS s op ≤ s.size := by
  unfold beginS negS
  by_cases h1 : op + 1 < s.size ∧ byteAt s (op + 1) = 94
  · rw [if_pos (by simpa using h1)]; omega
  · rw [if_neg (by simpa using h1)]; omega
theorem finC_placed {s : ByteArray} {a op : Nat} {ng : Bool} {R : Rd (Cls × Nat)} (h : Placed s a R) (ha : op ≤ a) (hs : op ≤ s.size) : Placed s op (finC ng op R) := by
  cases R with
  | ok v b =>
    obtain ⟨x, n⟩ := v
    have h1 := h.le; have h2 := h.lt rfl
    simp only [Rd.at_] at h1 h2
    have e : finC ng op (.ok (x, n) b) = if n = 0 ∨ (if ng then ~~~ x else x) = 0 then .bad op 132 else .ok (if ng then ~~~ x else x) b := rfl
    rw [e]
    by_cases hc : n = 0 ∨ (if ng then ~~~ x else x) = 0
    · rw [if_pos hc]; exact ⟨by simp only [Rd.at_]; omega, fun h => by simp only [Rd.no] at h; omega, fun _ => by simp only [Rd.no]; omega⟩
    · rw [if_neg hc]; exact ⟨by simp only [Rd.at_]; omega, fun _ => by simp only [Rd.at_]; omega, fun h => absurd rfl (h _ _)⟩
  | bad p e => exact ⟨h.le, fun h2 => by have := h.lt h2; simp only [Rd.at_, finC] at this ⊢; omega, h.ok ∘ fun _ v nx h => by cases h⟩
theorem Rd.map_placed {α β : Type} {f : α → β} {s : ByteArray} {a : Nat} {R : Rd α} (h : Placed s a R) : Placed s a (R.map f) := by
  cases R with
  | ok v b => exact ⟨h.le, h.lt, fun h => absurd rfl (h _ _)⟩
  | bad p e => exact ⟨h.le, h.lt, fun _ => h.ok (fun v nx h => by cases h)⟩
theorem ElemRd.placed {s : ByteArray} {a : Nat} {R : Rd Cls} (h : ElemRd s a R) (ha : a < s.size) : Placed s a R := by
  cases h with
  | full h => exact ⟨by simp only [Rd.at_]; omega, fun _ => by simp only [Rd.at_]; omega, fun h => absurd rfl (h _ _)⟩
  | cls h k => have hb := beginS_le s a ha; exact finC_placed (k.placed hb.2) (by omega) (by omega)
  | byte h h' => exact Rd.map_placed (oneS_placed _ _ s a ha (by decide))
theorem PatRun.placed {s : ByteArray} {a : Nat} {xs : List Cls} {R : Rd (List Cls)} (h : PatRun s a xs R) : a ≤ s.size → Placed s a R := by
  induction h with
  | stop h => intro _; exact ⟨by simp only [Rd.at_]; omega, fun h => by simp only [Rd.no] at h; omega, fun _ => by simp only [Rd.no]; omega⟩
  | close h hb h1 => intro _; exact ⟨by simp only [Rd.at_]; omega, fun _ => by simp only [Rd.at_]; omega, fun h => absurd rfl (h _ _)⟩
  | empty h hb h1 => intro _; exact ⟨by simp only [Rd.at_]; omega, fun h => by simp only [Rd.no] at h; omega, fun _ => by simp only [Rd.no]; omega⟩
  | long h hb h1 => intro _; exact ⟨by simp only [Rd.at_]; omega, fun h => by simp only [Rd.no] at h; omega, fun _ => by simp only [Rd.no]; omega⟩
  | bad h hb h1 k => intro _; have := k.placed h; exact ⟨this.le, this.lt, fun _ => this.ok (fun v nx h => by cases h)⟩
  | step h hb h1 k r ih => intro _; have h2 := k.placed h; have h3 := h2.lt rfl; simp only [Rd.at_] at h3; have h4 := h2.le; simp only [Rd.at_] at h4; have := ih h4; exact ⟨this.le, fun h => by have := this.lt h; omega, this.ok⟩
theorem PatRun.len {s : ByteArray} {a : Nat} {xs : List Cls} {R : Rd (List Cls)} (h : PatRun s a xs R) : xs.length ≤ 64 → ∀ ys b, R = .ok ys b → ys.length ≤ 64 ∧ 0 < ys.length := by
  induction h with
  | stop h => intro _ ys b e; cases e
  | close h hb h1 => intro hl ys b e; injection e with e1 e2; subst e1; exact ⟨hl, h1⟩
  | empty h hb h1 => intro _ ys b e; cases e
  | long h hb h1 => intro _ ys b e; cases e
  | bad h hb h1 k => intro _ ys b e; cases e
  | step h hb h1 k r ih => intro hl; exact ih (by rw [List.length_append]; simp; omega)
def clsL (x : Cls) : List Value := [.int .u64 (wd x 0), .int .u64 (wd x 1), .int .u64 (wd x 2), .int .u64 (wd x 3)]
theorem infoCl : (Try.prog.info? 35).map (fun i => (i.zero, i.size, i.bytes)) = some (some (.agg #[.int .u64 0, .int .u64 0, .int .u64 0, .int .u64 0]), 4, 32) := by kernel_rfl
theorem clsL_one (x : Cls) : ∀ u ∈ clsL x, u.oneCell' = true := by intro u hu; unfold clsL at hu; simp at hu; rcases hu with rfl | rfl | rfl | rfl <;> rfl
def POwn (w : World) (base : Nat) (A : Option Addr) (n c : Nat) (xs : List Cls) : Prop := xs.length = n ∧ w.ownsRow base 35 4 (.slice A n c) n (xs.flatMap clsL)
/-- What the loop of the document's pattern keeps. -/
def RpInv (s : ByteArray) (w : World) (R : Rd (List Cls)) (pt ov : Value) (wr : World) : Prop :=
  ∃ (k : Nat) (xs : List Cls) (A : Option Addr) (n c : Nat), k ≤ s.size ∧ n ≤ 64 ∧ pt = .int .i64 k ∧ ov = .slice A n c ∧ PatRun s k xs R ∧ Hid (POwn wr (w.heap.size + 1) A n c xs) ∧ Blk wr w.heap.size #[.int .u8 0, .int .u64 0, .int .u64 0, .int .u64 0, .int .u64 0, .slice none 0 0, .int .i64 0, .int .i64 0, .int .i64 0] 57 ∧ Chg Nothing w wr ∧ w.heap.size + 1 ≤ wr.heap.size
def PatAns (R : Rd (List Cls)) (w : World) (e : Ending) (w' : World) : Prop :=
  ∃ (B : Nat) (x : Cls) (A : Option Addr) (n c : Nat), e = .returned (.agg #[.int .u8 B, .int .u64 (wd x 0), .int .u64 (wd x 1), .int .u64 (wd x 2), .int .u64 (wd x 3), .slice A n c, .int .i64 0, .int .i64 (R.at_ : Nat), .int .i64 R.no]) ∧ (∀ ys nx, R = .ok ys nx → POwn w' (w.heap.size + 1) A n c ys) ∧ Chg Nothing w w'
set_option maxHeartbeats 8000000 in
set_option maxRecDepth 100000 in
theorem refPattern_any (s : ByteArray) (a : Nat) (R : Rd (List Cls)) (hR : PatRun s a [] R) (w : World) (hs : s.size ≤ 9223372036854775000) (ha : a ≤ s.size) :
    Calls Try.prog 40 #[.string s, .int .i64 a] w (PatAns R w) := by
  have hR := hid hR
  go_enter Try.func40, Try.ntmps40
  go_wp2_with fail
  go_loopw [1, 5] (fun pt ov wr => RpInv s w R pt ov wr) (fun pt _ _ => s.size + 1 - (intOf pt).toNat)
  case atStart => exact ⟨a, [], none, 0, 0, ha, by omega, rfl, rfl, hR.out, hid ⟨rfl, World.ownsRow_nil _ _ _ _⟩, Blk.new w _ _, (Chg.refl _ _).alloc _, by rw [World.size_alloc]; omega⟩
  case round =>
    clear hR
    obtain ⟨k, xs, A, n, c, hk, hn, rfl, rfl, hrun, HO, hG, hchg, hwr⟩ := hrel
    have HG := hid hG
    have hgl := hG.lt
    clear hG
    cases hrun with
    | stop h =>
      have hd : decide ((k : Int) < (s.size : Int)) = false := decide_eq_false (by omega)
      go_wp2_with (with_reducible refine halt_op (.store 57 (.tmp 4) (.tmp 45)) ?_)
      unfold Halted
      refine store_blk rfl 57 (.tmp 4) (.tmp 45) (by rfl) _ (by rfl) _ (by rfl) HG.out (by rfl) (by exact infoG) (by rfl) ?_
      intro wz HR hr
      go_wp2
      exact bodyPost_ret (results_cell_row Try.results40 _ _ _ _ _ _ _ (by rfl) HR Try.underlying57 rfl (by exact infoG)) rfl ⟨0, 0, none, 0, 0, by simp only [wd_zero]; rfl, (fun ys nx h => by cases h), hchg.then hr (fun i hi hk => absurd hk (by unfold One; omega))⟩
    | close h hb h1 =>
      have hd : decide ((k : Int) < (s.size : Int)) = true := decide_eq_true (by omega)
      have hg := byteAt_eq h
      have hd2 : (((byteAt s k : Nat) : Int) == 34) = true := beq_iff_eq.2 (by omega)
      have hn0 : ((n : Int) == 0) = false := by rw [beq_eq_false_iff_ne]; have := HO.out.1; omega
      replace hb := hid hb
      go_wp2_with (with_reducible refine halt_op (.store 57 (.tmp 4) (.tmp 23)) ?_)
      unfold Halted
      refine store_blk rfl 57 (.tmp 4) (.tmp 23) (by rfl) _ (by rfl) _ (by rfl) HG.out (by rfl) (by exact infoG) (by rfl) ?_
      intro wz HR hr
      go_wp2
      exact bodyPost_ret (results_cell_row Try.results40 _ _ _ _ _ _ _ (by rfl) HR Try.underlying57 rfl (by exact infoG)) rfl ⟨0, 0, A, n, c, by simp only [wd_zero]; rfl, (fun ys nx h => by injection h with e1 e2; subst e1; exact ⟨HO.out.1, own_chg HO.out.2 hr (fun k hk => by have := own_of HO.out.2 k hk; unfold One; omega)⟩), hchg.then hr (fun i hi hk => absurd hk (by unfold One; omega))⟩
    | empty h hb h1 =>
      have hd : decide ((k : Int) < (s.size : Int)) = true := decide_eq_true (by omega)
      have hg := byteAt_eq h
      have hd2 : (((byteAt s k : Nat) : Int) == 34) = true := beq_iff_eq.2 (by omega)
      have hn0 : ((n : Int) == 0) = true := beq_iff_eq.2 (by have := HO.out.1; omega)
      replace hb := hid hb
      go_wp2_with (with_reducible refine halt_op (.store 57 (.tmp 4) (.tmp 19)) ?_)
      unfold Halted
      refine store_blk rfl 57 (.tmp 4) (.tmp 19) (by rfl) _ (by rfl) _ (by rfl) HG.out (by rfl) (by exact infoG) (by rfl) ?_
      intro wz HR hr
      go_wp2
      exact bodyPost_ret (results_cell_row Try.results40 _ _ _ _ _ _ _ (by rfl) HR Try.underlying57 rfl (by exact infoG)) rfl ⟨0, 0, none, 0, 0, by simp only [wd_zero]; rfl, (fun ys nx h => by cases h), hchg.then hr (fun i hi hk => absurd hk (by unfold One; omega))⟩
    | long h hb h1 =>
      have hd : decide ((k : Int) < (s.size : Int)) = true := decide_eq_true (by omega)
      have hg := byteAt_eq h
      have hd2 : (((byteAt s k : Nat) : Int) == 34) = false := by rw [beq_eq_false_iff_ne]; omega
      have hn0 : ((n : Int) == 64) = true := beq_iff_eq.2 (by have := HO.out.1; omega)
      replace hb := hid hb
      go_wp2_with (with_reducible refine halt_op (.store 57 (.tmp 4) (.tmp 28)) ?_)
      unfold Halted
      refine store_blk rfl 57 (.tmp 4) (.tmp 28) (by rfl) _ (by rfl) _ (by rfl) HG.out (by rfl) (by exact infoG) (by rfl) ?_
      intro wz HR hr
      go_wp2
      exact bodyPost_ret (results_cell_row Try.results40 _ _ _ _ _ _ _ (by rfl) HR Try.underlying57 rfl (by exact infoG)) rfl ⟨0, 0, none, 0, 0, by simp only [wd_zero]; rfl, (fun ys nx h => by cases h), hchg.then hr (fun i hi hk => absurd hk (by unfold One; omega))⟩
    | @bad _ _ p e0 h hb h1 r =>
      have hd : decide ((k : Int) < (s.size : Int)) = true := decide_eq_true (by omega)
      have hg := byteAt_eq h
      have hd2 : (((byteAt s k : Nat) : Int) == 34) = false := by rw [beq_eq_false_iff_ne]; omega
      have hn0 : ((n : Int) == 64) = false := by rw [beq_eq_false_iff_ne]; have := HO.out.1; omega
      have hne := (r.placed h).ok (fun v nx h => by cases h)
      simp only [Rd.no] at hne
      have hne1 : (e0 == 0) = false := beq_eq_false_iff_ne.2 hne
      have hne2 : (e0 != 0) = true := by rw [bne_iff_ne]; exact hne
      replace hb := hid hb
      go_wp2_with fail
      refine (refElement_any s k _ r _ hs h).mono ?_
      rintro e w1 ⟨B, x, rfl, hx, hc⟩
      have HG1 := hid (HG.out.chg hc id)
      have hC1 := hid (hchg.trans hc)
      have hs1 := hc.size
      clear hc hchg HG hx
      simp only [Rd.at_, Rd.no]
      go_wp2_with (with_reducible refine halt_op (.store 57 (.tmp 4) (.tmp 35)) ?_)
      unfold Halted
      refine store_blk rfl 57 (.tmp 4) (.tmp 35) (by rfl) _ (by rfl) _ (by rfl) (Blk.alloc HG1.out _) (by rfl) (by exact infoG) (by rfl) ?_
      intro wz HR hr
      go_wp2
      exact bodyPost_ret (results_cell_row Try.results40 _ _ _ _ _ _ _ (by rfl) HR Try.underlying57 rfl (by exact infoG)) rfl ⟨B, x, none, 0, 0, rfl, (fun ys nx h => by cases h), (hC1.out.alloc _).then hr (fun i hi hk => absurd hk (by unfold One; omega))⟩
    | @step _ _ x b _ h hb h1 r rr =>
      have hd : decide ((k : Int) < (s.size : Int)) = true := decide_eq_true (by omega)
      have hg := byteAt_eq h
      have hd2 : (((byteAt s k : Nat) : Int) == 34) = false := by rw [beq_eq_false_iff_ne]; omega
      have hn0 : ((n : Int) == 64) = false := by rw [beq_eq_false_iff_ne]; have := HO.out.1; omega
      have hn64 : n ≠ 64 := by have := HO.out.1; omega
      have hpl := r.placed h
      have hb2 := hpl.lt rfl
      have hb3 := hpl.le
      simp only [Rd.at_] at hb2 hb3
      clear hpl
      replace hb := hid hb
      go_wp2_with fail
      refine (refElement_any s k _ r _ hs h).mono ?_
      rintro e w1 ⟨B, y, rfl, hx, hc⟩
      obtain rfl : y = x := hx x b rfl
      have HG1 := hid (HG.out.chg hc id)
      have HO1 := hid (own_chg HO.out.2 hc (fun _ _ h => h))
      have hC1 := hid (hchg.trans hc)
      have hs1 := hc.size
      have hl1 := hid HO.out.1
      clear hc hchg HG hx HO
      simp only [Rd.at_, Rd.no]
      go_wp2_with (at_builtin; (refine append_cells (w := w1.alloc _) rfl _ _ 38 rfl (w.heap.size + 1) 35 (.agg #[.int .u64 0, .int .u64 0, .int .u64 0, .int .u64 0]) 4 32 Try.underlying38 infoCl rfl (by decide) A c n _ rfl (own_chg HO1.out ((Chg.refl Nothing w1).alloc _) (fun _ _ h => h)) (clsL y) (by rw [World.size_alloc]; rfl) rfl (clsL_one y) ?_ ?_ ?_ ?_))
      · omega
      · omega
      · rw [World.size_alloc]; omega
      intro A' c' w6 hown6 hc6 hA
      have oa := own_of HO1.out
      have HX := (Blk.new w1 #[.int .u8 B, .int .u64 (wd y 0), .int .u64 (wd y 1), .int .u64 (wd y 2), .int .u64 (wd y 3), .slice none 0 0, .int .i64 0, .int .i64 b, .int .i64 0] 57).chg hc6 (fun h => by have := oa _ h; omega)
      have x7 := HX.cell 7 rfl
      have hown7 := hid hown6
      have hc7 := hid hc6
      have oa' := hid oa
      clear HX hown6 hc6 hA oa
      go_wp2
      go_roundw
      case rel =>
        refine ⟨b, xs ++ [y], A', n + 1, c', hb3, by omega, rfl, rfl, rr, hid ⟨by rw [List.length_append, hl1.out]; rfl, by rw [List.flatMap_append]; simpa [clsL] using hown7.out⟩, (Blk.alloc HG1.out _).chg hc7.out (fun h => by have := oa'.out _ h; omega), (hC1.out.alloc _).then hc7.out (fun i hi h => by have := oa'.out _ h; omega), by have := hc7.out.size; rw [World.size_alloc] at this; omega⟩
      case measure => simp [intOf]; omega
end Go.Proofs.Ytpndjehiacmngaa
