import Derived.Test.YtaniaeibaklbgaaFeedA
import Derived.Laws.AppendOwnNone
namespace Go.Proofs.Ytaniaeibaklbgaa
open Go.RowKit

theorem infoInt : (Try.prog.info? 3).map (fun i => (i.zero, i.size, i.bytes)) = some (some (.int .i64 0), 1, 8) := by kernel_rfl

set_option maxHeartbeats 400000 in
theorem clone_any (F : Nat → Prop) (A : Option Addr) (n c : Nat) (xs : List Int) (w : World) (h : IntsAt F w A n c xs) (hb : n * 8 ≤ 140737488351232) :
    Calls Try.prog 39 #[.slice A n c] w fun e w' => ∃ A' c', e = .returned (.slice A' n c') ∧ w'.ownsRow w.heap.size 3 1 (.slice A' n c') n (xs.map (Value.int .i64)) ∧ Chg Nothing w w' := by
  have H := hid h
  have hlen := h.2.2.2.1
  have heq := fun (W : World) => Lib.run_eql_slice_nil (P := Try.prog) W 22 3 A n c 0 0 Try.underlying22
  cases A with
  | none =>
    have h1 := h.1 rfl
    have h2 := h.2.1
    have : xs = [] := List.eq_nil_of_length_eq_zero (by omega)
    have h4 : n = 0 := by omega
    subst this h1 h4
    clear h
    simp only [Option.isNone_none] at heq
    go_enter Try.func39, Try.ntmps39
    go_wp2_with fail
    go_ret
    exact ⟨_, _, rfl, World.ownsRow_nil _ _ _ _, Chg.refl _ _⟩
  | some ad =>
  clear h
  simp only [Option.isNone_some] at heq
  have h1 := H.out.chg ((Chg.refl Nothing w).alloc (.cells #[] 3)) (fun _ _ _ h => h)
  go_enter Try.func39, Try.ntmps39
  go_wp2_with (at_builtin; refine append_gen rfl _ _ 22 rfl w.heap.size 3 (.int .i64 0) 1 8 Try.underlying22 infoInt rfl (by decide) _ 0 0 [] rfl (World.ownsRow_made w #[] 0 (Nat.le_refl _) (by unfold maxLen; omega) rfl) (some ad) n c (xs.map (Value.int .i64)) rfl ?h1 ?h2 ?h3 ?h4 (nums_one _ _) ?h5 ?h6 ?h7 ?_)
  case h1 => simp; omega
  case h2 => intro e; cases e
  case h3 => exact H.out.2.1
  case h4 => exact h1.cells'
  case h5 => unfold maxLen; omega
  case h6 => omega
  case h7 => rw [World.size_alloc]; exact Nat.le_succ _
  intro A' c' w1 hown hc1
  intros
  go_wp2
  go_ret
  refine ⟨A', c', ?_, ?_, ?_⟩
  · simp
  · simpa using hown
  · exact ((Chg.refl Nothing w).alloc (.cells #[] 3)).then hc1 (fun k hk ⟨a, e, hk'⟩ => by injection e with e; subst e; simp only at hk'; omega)

set_option maxHeartbeats 400000 in
theorem given_any (F : Nat → Prop) (b : Nat) (f : Fd) (w : World) (h : FeedAt F w b f) :
    Calls Try.prog 21 #[.pointer (some ⟨b, 0, none⟩)] w fun e' w' => e' = .returned (.int .i64 f.p) ∧ ∃ n, w' = w.drewN n := by
  obtain ⟨_, _, A, n, c, hB, _⟩ := h
  have h2 := hB.cell 2 (v := .int .i64 f.p) rfl
  clear hB
  go_enter Try.func21, Try.ntmps21
  go_wp2_with fail
  go_ret
  exact ⟨rfl, 0, rfl⟩

set_option maxHeartbeats 400000 in
theorem whole_any (F : Nat → Prop) (b : Nat) (f : Fd) (w : World) (h : FeedAt F w b f) :
    Calls Try.prog 22 #[.pointer (some ⟨b, 0, none⟩)] w fun e' w' => e' = .returned (.tuple #[.string (f.t.extract 0 f.q), .bool (f.e == 2)]) ∧ ∃ n, w' = w.drewN n := by
  obtain ⟨hok, _, A, n, c, hB, _⟩ := h
  have h0 := hB.cell 0 (v := .string f.t) rfl
  have h3 := hB.cell 3 (v := .int .i64 f.q) rfl
  have h4 := hB.cell 4 (v := .int .i64 f.e) rfl
  obtain ⟨hk1, hk2, hk3⟩ := hok
  clear hB
  go_enter Try.func22, Try.ntmps22
  go_wp2_with fail
  go_quiet (fail)
  go_wp2
  go_ret2
  refine ⟨?_, _, rfl⟩
  show Ending.returned (.tuple #[.string _, .bool _]) = _
  rfl


/-- A new feed. -/
def Fd.new (t : ByteArray) (ps : List Int) (fail : Int) : Fd := if 0 ≤ fail ∧ fail ≤ t.size then ⟨t, ps, 0, fail.toNat, 2⟩ else ⟨t, ps, 0, t.size, 1⟩

theorem new_fails {t : ByteArray} {ps : List Int} {fail : Int} (h0 : 0 ≤ fail) (h1 : fail ≤ t.size) : Fd.new t ps fail = ⟨t, ps, 0, fail.toNat, 2⟩ := if_pos ⟨h0, h1⟩
theorem new_ends {t : ByteArray} {ps : List Int} {fail : Int} (h : ¬ (0 ≤ fail ∧ fail ≤ t.size)) : Fd.new t ps fail = ⟨t, ps, 0, t.size, 1⟩ := if_neg h

theorem new_close {w w1 : World} {t : ByteArray} {A : Option Addr} {n c : Nat} {ps : List Int} {q e : Int} {fail : Int} (ht : t.size ≤ 9223372036854775807)
    (hown : w1.ownsRow w.heap.size 3 1 (.slice A n c) n (ps.map (Value.int .i64))) (hc : Chg Nothing w w1)
    (hq : (Fd.new t ps fail).q = q) (he : (Fd.new t ps fail).e = e) :
    ∃ b, Ending.returned (.pointer (some ⟨w1.heap.size, 0, none⟩)) = .returned (.pointer (some ⟨b, 0, none⟩)) ∧ w.heap.size ≤ b ∧
      b < (w1.alloc (.cells #[.string t, .slice A n c, .int .i64 0, .int .i64 q, .int .i64 e] 52)).heap.size ∧
      FeedAt (fun k => w.heap.size ≤ k ∧ k < b) (w1.alloc (.cells #[.string t, .slice A n c, .int .i64 0, .int .i64 q, .int .i64 e] 52)) b (Fd.new t ps fail) ∧
      Chg Nothing w (w1.alloc (.cells #[.string t, .slice A n c, .int .i64 0, .int .i64 q, .int .i64 e] 52)) := by
  have hI := ElsAt.of_own (d := 0) hown
  have hc' := hc.alloc (.cells #[.string t, .slice A n c, .int .i64 0, .int .i64 q, .int .i64 e] 52)
  refine ⟨_, rfl, hc.size, by rw [World.size_alloc]; omega, ⟨?_, by omega, A, n, c, ?_, ?_⟩, hc'⟩
  · unfold Fd.new
    split
    · refine ⟨Nat.zero_le _, ?_, ht⟩; simp only; omega
    · exact ⟨Nat.zero_le _, Nat.le_refl _, ht⟩
  · have := Blk.new w1 #[.string t, .slice A n c, .int .i64 0, .int .i64 q, .int .i64 e] 52
    rw [← hq, ← he] at this ⊢
    unfold Fd.new at this ⊢
    split at this
    · rename_i hx; rw [if_pos hx]; exact this
    · rename_i hx; rw [if_neg hx]; exact this
  · have : (Fd.new t ps fail).ps = ps := by unfold Fd.new; split <;> rfl
    rw [this]
    refine (hI.mono ?_).chg (S := Nothing) (Chg.alloc (Chg.refl _ _) _) (fun _ _ _ h => h)
    intro k hk h
    exact ⟨h.2, hk⟩

set_option maxHeartbeats 400000 in
theorem new_any (F : Nat → Prop) (t : ByteArray) (A : Option Addr) (n c : Nat) (ps : List Int) (fail : Int) (w : World) (ht : t.size ≤ 9223372036854775807) (h : IntsAt F w A n c ps) (hb : n * 8 ≤ 140737488351232) :
    Calls Try.prog 15 #[.string t, .slice A n c, .int .i64 fail] w fun e w' => ∃ b, e = .returned (.pointer (some ⟨b, 0, none⟩)) ∧ w.heap.size ≤ b ∧ b < w'.heap.size ∧ FeedAt (fun k => w.heap.size ≤ k ∧ k < b) w' b (Fd.new t ps fail) ∧ Chg Nothing w w' := by
  have H := hid h
  clear h
  by_cases hf : 0 ≤ fail
  · by_cases hf2 : fail ≤ t.size
    · go_enter Try.func15, Try.ntmps15
      go_wp2_with (go_at_call 39; refine (clone_any F A n c ps _ H.out hb).mono ?_; rintro e w1 ⟨A', c', rfl, hown, hc⟩)
      go_ret
      exact new_close ht hown hc (by rw [new_fails hf hf2]; simp only; omega) (by rw [new_fails hf hf2])
    · go_enter Try.func15, Try.ntmps15
      go_wp2_with (go_at_call 39; refine (clone_any F A n c ps _ H.out hb).mono ?_; rintro e w1 ⟨A', c', rfl, hown, hc⟩)
      go_ret
      exact new_close ht hown hc (by rw [new_ends (by omega)]) (by rw [new_ends (by omega)])
  · go_enter Try.func15, Try.ntmps15
    go_wp2_with (go_at_call 39; refine (clone_any F A n c ps _ H.out hb).mono ?_; rintro e w1 ⟨A', c', rfl, hown, hc⟩)
    go_ret
    exact new_close ht hown hc (by rw [new_ends (by omega)]) (by rw [new_ends (by omega)])

end Go.Proofs.Ytaniaeibaklbgaa
