/- Layer 6, class: Runs. -/
import Derived.Test.YtpndjehiacmngaaClassC
namespace Go.Proofs.Ytpndjehiacmngaa
open Go.RowKit
set_option linter.unusedVariables false

/-- One more byte: the rows of those that follow one another. -/
def runsStep (x : Cls) (rs : List (Nat × Nat)) (k : Nat) : List (Nat × Nat) :=
  if x.getLsbD k = true then (if 0 < k ∧ x.getLsbD (k - 1) = true then rs.dropLast ++ [((rs.getLastD (0, 0)).1, k)] else rs ++ [(k, k)]) else rs
def runsTo (x : Cls) (k : Nat) : List (Nat × Nat) := (List.range k).foldl (runsStep x) []
def runsC (x : Cls) : List (Nat × Nat) := runsTo x 256
theorem runsTo_succ (x : Cls) (k : Nat) : runsTo x (k + 1) = runsStep x (runsTo x k) k := by unfold runsTo; rw [List.range_succ, List.foldl_append]; rfl
theorem runsTo_skip (x : Cls) (k : Nat) (h : x.getLsbD k = false) : runsTo x (k + 1) = runsTo x k := by rw [runsTo_succ]; unfold runsStep; simp [h]
theorem runsTo_row (x : Cls) (k j : Nat) (hkj : k < j) (h0 : k = 0 ∨ x.getLsbD (k - 1) = false) (h : ∀ i, k ≤ i → i < j → x.getLsbD i = true) : runsTo x j = runsTo x k ++ [(k, j - 1)] := by
  obtain ⟨d, rfl⟩ : ∃ d, j = k + 1 + d := ⟨j - (k + 1), by omega⟩
  clear hkj
  induction d with
  | zero =>
    rw [Nat.add_zero, runsTo_succ]; unfold runsStep
    rw [if_pos (h k (by omega) (by omega)), if_neg]
    · rfl
    · rintro ⟨h1, h2⟩
      rcases h0 with h0 | h0
      · omega
      · rw [h0] at h2; cases h2
  | succ d ih =>
    rw [← Nat.add_assoc, runsTo_succ, ih (fun i h1 h2 => h i h1 (by omega))]; unfold runsStep
    rw [if_pos (h _ (by omega) (by omega)), if_pos ⟨by omega, h _ (by omega) (by omega)⟩]
    simp
theorem runsTo_len (x : Cls) (k : Nat) : (runsTo x k).length ≤ k := by
  induction k with
  | zero => simp [runsTo]
  | succ k ih =>
    rw [runsTo_succ]; unfold runsStep
    split
    · split
      · simp; omega
      · simp; omega
    · omega
def encR (r : Nat × Nat) : List Value := [.int .u8 r.1, .int .u8 r.2]
theorem encR_len (rs : List (Nat × Nat)) : (rs.flatMap encR).length = rs.length * 2 := by
  induction rs with
  | nil => rfl
  | cons r rs ih => rw [List.flatMap_cons, List.length_append, ih, List.length_cons]; simp [encR]; omega
theorem info2 : (Try.prog.info? 66).map (fun i => (i.zero, i.size, i.bytes)) = some (some (.agg #[.int .u8 0, .int .u8 0]), 2, 2) := by kernel_rfl

/-- One element of several cells is appended; w is the world ahead of the cells in which it is handed over. -/
theorem append_cells {P : Program} {w : World} {ops : Array Oper} {rest : List Oper} {o : Oper} {a : Act} {Q : Exit → Act → World → Prop} (hgd : o.guard = none) (s x : Operand) (t : TypeId)
    (ho : o.op = .call { callee := .builtin .append, args := #[s, x], argTypes := #[t, t] })
    (base : Nat) (e : TypeId) (z : Value) (size bytes : Nat) (ht : P.underlying t = some (.slice e)) (hinfo : (P.info? e).map (fun i => (i.zero, i.size, i.bytes)) = some (some z, size, bytes))
    (hzs : z.cells.size = size) (hsz : 0 < size)
    (A : Option Addr) (c n : Nat) (xs : List Value) (hs : a.eval s = .slice A n c) (hown : w.ownsRow base e size (.slice A n c) n xs)
    (us : List Value) (hx : a.eval x = .slice (some ⟨w.heap.size, 0, none⟩) 1 1) (hul : us.length = size) (h1 : ∀ u ∈ us, u.oneCell' = true)
    (hbytes : (n + 1) * bytes ≤ 140737488355328) (h63 : n + 1 ≤ 9223372036854775807) (hbase : base ≤ w.heap.size)
    (h : ∀ A' c' w', w'.ownsRow base e size (.slice A' (n + 1) c') (n + 1) (xs ++ us) → Chg (Of A) w w' → (∀ k, Of A' k → Of A k ∨ w.heap.size ≤ k) → wpList P ops Q rest (a.put o.dst (.slice A' (n + 1) c')) w') :
    wpList P ops Q (o :: rest) a (w.alloc (.cells us.toArray e)) := by
  refine append_gen hgd s x t ho base e z size bytes ht hinfo hzs hsz A c n xs hs (own_chg hown ((Chg.refl Nothing w).alloc _) (fun _ _ h => h)) (some ⟨w.heap.size, 0, none⟩) 1 1 us hx (by omega) (fun e => by cases e) (Nat.le_refl _) ?_ h1 (by unfold maxLen; omega) hbytes (by rw [World.size_alloc]; omega) ?_
  · intro ad e; injection e with e; subst e
    intro j u hj
    rw [add_plain]
    exact (Blk.new w _ _).cell _ (by rw [Nat.zero_add]; simpa using hj)
  · intro A' c' w' h2 h3 _ h4
    refine h A' c' w' h2 (((Chg.refl (Of A) w).alloc _).then h3 (fun k _ h => h)) (fun k hk => ?_)
    rcases h4 k hk with h | h
    · exact .inl h
    · right; rw [World.size_alloc] at h; omega

theorem own_base_less {w : World} {b b' : Nat} {e : TypeId} {sz n c : Nat} {A : Option Addr} {vs : List Value} (h : w.ownsRow b e sz (.slice A n c) n vs) (hb : b' ≤ b) : w.ownsRow b' e sz (.slice A n c) n vs := by
  refine ⟨h.1, ?_⟩
  rcases h.2 with hn | ⟨g, cap, cur, e1, hb1, rest⟩
  · exact .inl hn
  · exact .inr ⟨g, cap, cur, e1, by omega, rest⟩

/-- What the outer loop keeps. -/
def RunsInv (w : World) (x : Cls) (o i : Value) (wr : World) : Prop :=
  ∃ (k : Nat) (A : Option Addr) (c n : Nat), (k : Int) ≤ 256 ∧ i = .int .i64 k ∧ o = .slice A n c ∧ Hid ((runsTo x k).length = n) ∧ wr.ownsRow (w.heap.size + 1) 66 2 (.slice A n c) n ((runsTo x k).flatMap encR) ∧ CBox wr w.heap.size x ∧ Hid (x.getLsbD k = true → k = 0 ∨ x.getLsbD (k - 1) = false) ∧ Chg Nothing w wr ∧ w.heap.size + 1 ≤ wr.heap.size
/-- What the inner one keeps. -/
def RunsIn (w wr : World) (x : Cls) (k : Nat) (A : Option Addr) (n c : Nat) (i : Value) (wj : World) : Prop :=
  ∃ (j : Nat), (j : Int) ≤ 256 ∧ k ≤ j ∧ i = .int .i64 j ∧ wj.ownsRow (w.heap.size + 1) 66 2 (.slice A n c) n ((runsTo x k).flatMap encR) ∧ CBox wj w.heap.size x ∧ Hid (∀ i, k ≤ i → i < j → x.getLsbD i = true) ∧ Chg Nothing w wj ∧ w.heap.size + 1 ≤ wj.heap.size

set_option maxRecDepth 20000 in
set_option maxHeartbeats 1000000 in
theorem classRuns_any (x : Cls) (w : World) :
    Calls Try.prog 27 #[encC x] w fun e w' => ∃ A n c, e = .returned (.slice A n c) ∧ (runsC x).length = n ∧ w'.ownsRow w.heap.size 66 2 (.slice A n c) n ((runsC x).flatMap encR) ∧ Chg Nothing w w' := by
  unfold encC
  go_enter Try.func27, Try.ntmps27
  go_wp2
  go_step3
  go_wp2
  go_step3
  go_wp2
  go_loopw [3, 4] (fun o i wr => RunsInv w x o i wr) (fun _ i _ => 256 - (intOf i).toNat)
  case atStart => exact ⟨0, none, 0, 0, by omega, rfl, rfl, hid rfl, World.ownsRow_nil _ _ _ _, Blk.new w _ _, hid (fun _ => .inl rfl), (Chg.refl _ _).alloc _, by rw [World.size_alloc]; omega⟩
  case round =>
    obtain ⟨k, A, c, n, hk, rfl, rfl, hn, hown, hB, hst, hcr, hwr⟩ := hrel
    obtain ⟨r0, r1, r2, r3, f0, f1, f2, f3, hlt1⟩ := CBox.at_ hB
    have HB := hid hB; clear hB
    have HO := hid hown; clear hown
    have hlg : (k : Int) < 256 ∨ 256 ≤ (k : Int) := by omega
    rcases hlg with hlt | hge
    · go_wp2_with fail
      refine (classHas_any x k wr (by omega)).mono ?_
      rintro e w3 ⟨rfl, hc⟩
      have HB3 : CBox w3 w.heap.size x := HB.out.chg hc id
      have HO3 := own_chg HO.out hc (fun _ _ h => h)
      have hcr3 := hcr.trans hc
      have hs3 := hc.size
      clear r0 r1 r2 r3 f0 f1 f2 f3 hlt1 HB hc hcr HO
      obtain ⟨r0, r1, r2, r3, f0, f1, f2, f3, hlt1⟩ := CBox.at_ HB3
      have HB3' := hid HB3; clear HB3
      have HO3' := hid HO3; clear HO3
      cases hb : x.getLsbD k with
      | false =>
        have hbh := hid hb; clear hb
        go_wp2
        go_roundw
        case rel => exact ⟨k + 1, A, c, n, by omega, by go_num, rfl, hid (by rw [runsTo_skip x k hbh.out]; exact hn.out), by rw [runsTo_skip x k hbh.out]; exact HO3'.out, HB3'.out, hid (fun _ => .inr hbh.out), hcr3, by omega⟩
        case measure => simp [intOf]; omega
      | true =>
        have hbh := hid hb; clear hb
        go_wp2
        go_loopw [4] (fun i wj => RunsIn w wr x k A n c i wj) (fun i _ => 256 - (intOf i).toNat)
        case atStart => exact ⟨k, by omega, Nat.le_refl _, rfl, HO3'.out, HB3'.out, hid (fun i h1 h2 => by omega), hcr3, by omega⟩
        case round =>
          clear r0 r1 r2 r3 f0 f1 f2 f3 hlt1 HB3' HO3' hcr3 hs3
          obtain ⟨j, hj, hkj, rfl, hown, hB, hall, hcj, hsj⟩ := hrel
          obtain ⟨r0, r1, r2, r3, f0, f1, f2, f3, hlt1⟩ := CBox.at_ hB
          have HB := hid hB; clear hB
          have HO := hid hown; clear hown
          have hlg : (j : Int) < 256 ∨ 256 ≤ (j : Int) := by omega
          rcases hlg with hjl | hjg
          · go_wp2_with fail
            refine (classHas_any x j _ (by omega)).mono ?_
            rintro e w5 ⟨rfl, hc⟩
            have HB5 : CBox w5 w.heap.size x := HB.out.chg hc id
            have HO5 := own_chg HO.out hc (fun _ _ h => h)
            have hcr5 := hcj.trans hc
            have hs5 := hc.size
            clear r0 r1 r2 r3 f0 f1 f2 f3 hlt1 HB hc hcj HO
            obtain ⟨r0, r1, r2, r3, f0, f1, f2, f3, hlt1⟩ := CBox.at_ HB5
            have HB5' := hid HB5; clear HB5
            have HO5' := hid HO5; clear HO5
            cases hb : x.getLsbD j with
            | true =>
              have hbj := hid hb; clear hb
              go_wp2
              go_roundw
              case rel => exact ⟨j + 1, by omega, by omega, by go_num, HO5'.out, HB5'.out, hid (fun i h1 h2 => by
                rcases Nat.lt_succ_iff_lt_or_eq.1 h2 with h | rfl
                · exact hall.out i h1 h
                · exact hbj.out), hcr5, by omega⟩
              case measure => simp [intOf]; omega
            | false =>
              have hbj := hid hb; clear hb
              have hlen := runsTo_len x k
              rw [hn.out] at hlen
              have hkj' : k < j := by
                rcases Nat.lt_or_ge k j with h | h
                · exact h
                · have : k = j := by omega
                  subst this; rw [hbh.out] at hbj; cases hbj.out
              have hrow := hid (runsTo_row x k j hkj' (hst.out hbh.out) hall.out)
              have hmod : (j : Int) - 1 = ((j - 1 : Nat) : Int) := by omega
              have hmodh := hid hmod; clear hmod
              go_wp2_with (at_builtin; go_loud (refine append_cells rfl _ _ 64 rfl (w.heap.size + 1) 66 (.agg #[.int .u8 0, .int .u8 0]) 2 2 Try.underlying64 info2 rfl (by decide) A c n _ rfl HO5'.out [.int .u8 k, .int .u8 ((j : Int) - 1)] rfl rfl (by intro u hu; simp at hu; rcases hu with rfl | rfl <;> rfl) ?_ ?_ ?_ ?_))
              · omega
              · omega
              · omega
              intro A' c' w6 hown6 hc6 hA
              rw [hmodh.out] at hown6
              go_wp2
              have hown7 : w6.ownsRow (w.heap.size + 1) 66 2 (.slice A' (n + 1) c') (n + 1) ((runsTo x j).flatMap encR) := by
                rw [hrow.out, List.flatMap_append]; exact hown6
              have oa := own_of HO5'.out
              go_roundw
              case rel => exact ⟨j, A', c', n + 1, hj, rfl, rfl, hid (by rw [hrow.out, List.length_append, hn.out]; rfl), hown7, HB5'.out.chg hc6 (fun h => by have := oa _ h; omega), hid (fun h => by rw [hbj.out] at h; cases h), hcr5.then hc6 (fun i hi h => by have := oa _ h; omega), by have := hc6.size; omega⟩
              case measure => simp [intOf]; omega
          · have hd : decide ((j : Int) < 256) = false := decide_eq_false (by omega)
            have hbj := hid (show x.getLsbD j = false from BitVec.getLsbD_of_ge _ _ (by omega))
            have hlen := runsTo_len x k
            rw [hn.out] at hlen
            have hkj' : k < j := by
              rcases Nat.lt_or_ge k j with h | h
              · exact h
              · omega
            clear hjg
            have hrow := hid (runsTo_row x k j hkj' (hst.out hbh.out) hall.out)
            have hmod : (j : Int) - 1 = ((j - 1 : Nat) : Int) := by omega
            have hmodh := hid hmod; clear hmod
            go_wp2_with (at_builtin; (refine append_cells rfl _ _ 64 rfl (w.heap.size + 1) 66 (.agg #[.int .u8 0, .int .u8 0]) 2 2 Try.underlying64 info2 rfl (by decide) A c n _ rfl HO.out [.int .u8 k, .int .u8 ((j : Int) - 1)] rfl rfl (by intro u hu; simp at hu; rcases hu with rfl | rfl <;> rfl) ?_ ?_ ?_ ?_))
            · omega
            · omega
            · omega
            intro A' c' w6 hown6 hc6 hA
            rw [hmodh.out] at hown6
            go_wp2
            have hown7 : w6.ownsRow (w.heap.size + 1) 66 2 (.slice A' (n + 1) c') (n + 1) ((runsTo x j).flatMap encR) := by
              rw [hrow.out, List.flatMap_append]; exact hown6
            have oa := own_of HO.out
            go_roundw
            case rel => exact ⟨j, A', c', n + 1, hj, rfl, rfl, hid (by rw [hrow.out, List.length_append, hn.out]; rfl), hown7, HB.out.chg hc6 (fun h => by have := oa _ h; omega), hid (fun h => by rw [hbj.out] at h; cases h), hcj.then hc6 (fun i hi h => by have := oa _ h; omega), by have := hc6.size; omega⟩
            case measure => simp [intOf]; omega
    · have hd : decide ((k : Int) < 256) = false := decide_eq_false (by omega)
      have hk256 : k = 256 := by omega
      have hrs := hid (show runsTo x k = runsC x from by rw [hk256]; rfl); clear hk256 hge hk
      go_wp2
      try rw [Exit.noGoto_ret]
      go_ret
      rw [hrs.out] at hn
      have ho := HO.out
      rw [hrs.out] at ho
      exact ⟨A, n, c, rfl, hn.out, own_base_less ho (by omega), hcr⟩
end Go.Proofs.Ytpndjehiacmngaa
