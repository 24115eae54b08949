/- Layer 15, set: And, Or, Not, Shift, Below. -/
import Derived.Test.YtemfmdhgalmgnaaSetA
namespace Go.Proofs.Ytemfmdhgalmgnaa
open Go.RowKit
set_option linter.unusedVariables false

theorem own_base_mono {w : World} {b b' : Nat} {e : TypeId} {sz n : Nat} {v : Value} {xs : List Value} (h : w.ownsRow b e sz v n xs) (hb : b' ≤ b) : w.ownsRow b' e sz v n xs := by
  refine ⟨h.1, ?_⟩
  rcases h.2 with hn | ⟨g, cap, cur, e1, hg, rest⟩
  · exact .inl hn
  · exact .inr ⟨g, cap, cur, e1, by omega, rest⟩
theorem GivesInts.mono {b b' : Nat} {w : World} {e : Ending} {xs : List Int} (h : GivesInts b w e xs) (hb : b' ≤ b) : GivesInts b' w e xs := by
  obtain ⟨A, c, h1, h2⟩ := h; exact ⟨A, c, h1, own_base_mono h2 hb⟩
theorem GivesInts.nil (b : Nat) (w : World) : GivesInts b w (.returned (.slice none 0 0)) [] := ⟨none, 0, rfl, World.ownsRow_nil _ _ _ _⟩

def andL (a b : List Int) : List Int := if rightB (-1) b then keptL (fun x => decide (x ∈ b)) a else []
def belowL (l : List Int) (n : Int) : List Int := keptL (fun x => decide (x < n)) l
def shiftL (l : List Int) (n : Int) : List Int := if n < 0 then [] else (keptL (fun x => decide (n ≤ x)) l).map (fun x => x - n)
def clip (n : Int) : Nat := (max 0 (min n 100000)).toNat
def notL (l : List Int) (n : Int) : List Int := if rightB (-1) l then ((List.range (clip n)).map (fun (k : Nat) => (k : Int))).filter (fun x => !decide (x ∈ l)) else []

theorem along_enters (args : Array Value) (w : World) : (callFunc 62 args).run Try.prog w = .ok (.enter 62 args) w := by kernel_rfl
theorem shift1_enters (args : Array Value) (w : World) : (callFunc 44 args).run Try.prog w = .ok (.enter 44 args) w := by kernel_rfl
theorem below1_enters (args : Array Value) (w : World) : (callFunc 45 args).run Try.prog w = .ok (.enter 45 args) w := by kernel_rfl

theorem along_rule (F : Nat → Prop) (ba bl : Nat) (B : Option Addr) (n c : Nat) (xs : List Int) (N : Nat) (hr : rightB (-1) xs = true) (hba : ba < N) (hbl : bl < N) (hF : ∀ k, F k → k < N) :
    Rule 62 #[.pointer (some ⟨ba, 0, none⟩), .pointer (some ⟨bl, 0, none⟩)] (fun x => decide (x ∈ xs)) (fun y w => AlongSt F ba bl B n c xs y w) N (One ba) :=
  ⟨along_enters, fun y x W hyx h => along1_any F ba bl B n c xs y x W h hr hyx,
    fun y W W' h hc => h.chg hc (by omega) (by omega) (fun k _ hk => by have := hF k hk; omega), fun k hk => by unfold One at hk; omega⟩

set_option maxHeartbeats 400000 in
theorem setAnd_any (F G : Nat → Prop) (A B : Option Addr) (n c m d : Nat) (xs ys : List Int) (w : World) (h : IntsAt F w A n c xs) (h' : IntsAt G w B m d ys) (hF : ∀ k, F k → k < w.heap.size) (hG : ∀ k, G k → k < w.heap.size) (hb : n * 8 ≤ 140737488351232) :
    Calls Try.prog 19 #[.slice A n c, .slice B m d] w fun e w' => GivesInts w.heap.size w' e (andL xs ys) ∧ Chg Nothing w w' := by
  have H := hid h; clear h
  have H' := hid h'; clear h'
  have hFF := hid hF; clear hF
  have hGG := hid hG; clear hG
  by_cases hr : rightB (-1) ys = true
  · have HR := hid hr
    go_enter Try.func19, Try.ntmps19
    go_wp2_with (go_at_call 17; refine (setRight_any G B m d ys _ H'.out).mono ?_; rintro e w' ⟨rfl, rfl⟩)
    refine (along_any G B m d ys w H'.out hGG.out).mono ?_
    rintro e w1 ⟨ba, bl, rfl, h1, h2, h3, h4, hst, hc1⟩
    go_wp2_with fail
    have hrule := along_rule G ba bl B m d ys w1.heap.size HR.out h3 h4 (fun k hk => by have := hGG.out k hk; have := hc1.size; omega)
    refine (kept_any F A n c xs _ _ _ _ (One ba) (-1) w1 (H.out.chg hc1 (fun _ _ _ h => h)) hb hrule (by omega) (hst _) (fun k hk e => by have := hFF.out k hk; unfold One at e; omega) (fun k hk => by have := hFF.out k hk; have := hc1.size; omega)).mono ?_
    rintro e w2 ⟨hg, hc2, _⟩
    obtain ⟨X, cx, rfl, hown⟩ := hg.mono hc1.size
    have hc02 := hc1.then hc2 (fun k hk e => by unfold One at e; omega)
    clear hst hrule
    go_wp2_with fail
    go_ret
    exact ⟨⟨X, cx, by unfold andL; rw [if_pos HR.out]; rfl, by unfold andL; rw [if_pos HR.out]; exact hown⟩, hc02⟩
  · have hrf : rightB (-1) ys = false := by simpa using hr
    clear hr
    have HR := hid hrf
    go_enter Try.func19, Try.ntmps19
    go_wp2_with (go_at_call 17; refine (setRight_any G B m d ys _ H'.out).mono ?_; rintro e w' ⟨rfl, rfl⟩)
    go_ret
    exact ⟨by unfold andL; rw [if_neg (by rw [HR.out]; decide)]; exact GivesInts.nil _ _, Chg.refl _ _⟩

set_option maxHeartbeats 400000 in
theorem shift1_any (b : Nat) (n x : Int) (w : World) (h : Blk w b #[.int .i64 n] 3) :
    Calls Try.prog 44 #[.int .i64 x, .pointer (some ⟨b, 0, none⟩)] w fun e w' => e = .returned (.bool (decide (n ≤ x))) ∧ w = w' := by
  have h0 := h.cell 0 (v := .int .i64 n) rfl
  clear h
  go_enter Try.func44, Try.ntmps44
  go_wp2_with fail
  go_ret
  exact ⟨by simp, rfl⟩
set_option maxHeartbeats 400000 in
theorem below1_any (b : Nat) (n x : Int) (w : World) (h : Blk w b #[.int .i64 n] 3) :
    Calls Try.prog 45 #[.int .i64 x, .pointer (some ⟨b, 0, none⟩)] w fun e w' => e = .returned (.bool (decide (x < n))) ∧ w = w' := by
  have h0 := h.cell 0 (v := .int .i64 n) rfl
  clear h
  go_enter Try.func45, Try.ntmps45
  go_wp2_with fail
  go_ret
  exact ⟨by simp, rfl⟩
theorem plain_rule (g : Nat) (p : Int → Bool) (b : Nat) (n : Int) (N : Nat) (hb : b < N) (hg : ∀ args w, (callFunc g args).run Try.prog w = .ok (.enter g args) w)
    (hc : ∀ x w, Blk w b #[.int .i64 n] 3 → Calls Try.prog g #[.int .i64 x, .pointer (some ⟨b, 0, none⟩)] w fun e w' => e = .returned (.bool (p x)) ∧ w = w') :
    Rule g #[.pointer (some ⟨b, 0, none⟩)] p (fun _ w => Blk w b #[.int .i64 n] 3) N Nothing :=
  ⟨hg, fun y x W _ h => (hc x W h).mono fun e W' ⟨h1, h2⟩ => ⟨h1, h2 ▸ h, h2 ▸ Chg.refl _ _⟩, fun y W W' h hcg => h.chg hcg (by omega), fun k hk => hk.elim⟩

set_option maxHeartbeats 400000 in
theorem setBelow_any (F : Nat → Prop) (A : Option Addr) (n c : Nat) (xs : List Int) (x : Int) (w : World) (h : IntsAt F w A n c xs) (hF : ∀ k, F k → k < w.heap.size) (hb : n * 8 ≤ 140737488351232) :
    Calls Try.prog 26 #[.slice A n c, .int .i64 x] w fun e w' => GivesInts w.heap.size w' e (belowL xs x) ∧ Chg Nothing w w' := by
  have H := hid h; clear h
  have hFF := hid hF; clear hF
  go_enter Try.func26, Try.ntmps26
  go_wp2_with fail
  have hc1 := (Chg.refl Nothing w).alloc (.cells #[.int .i64 x] 3)
  have hrule := plain_rule 45 (fun z => decide (z < x)) w.heap.size x (w.alloc (.cells #[.int .i64 x] 3)).heap.size (by rw [World.size_alloc]; omega) below1_enters (fun z W h => below1_any w.heap.size x z W h)
  refine (kept_any F A n c xs _ _ _ _ Nothing (-1) _ (H.out.chg hc1 (fun _ _ _ h => h)) hb hrule (by omega) (Blk.new w _ _) (fun k _ h => h) (fun k hk => by have := hFF.out k hk; rw [World.size_alloc]; omega)).mono ?_
  rintro e w2 ⟨hg, hc2, _⟩
  obtain ⟨X, cx, rfl, hown⟩ := hg.mono (b' := w.heap.size) (by rw [World.size_alloc]; omega)
  have hc02 := hc1.trans hc2
  clear hrule
  go_wp2_with fail
  go_ret
  exact ⟨⟨X, cx, rfl, hown⟩, hc02⟩

theorem keptL_nonneg {p : Int → Bool} {xs : List Int} : ∀ z ∈ keptL p xs, 0 ≤ z ∧ z ∈ xs ∧ p z = true := by
  intro z hz
  unfold keptL at hz
  split at hz
  · rename_i hr
    rw [List.mem_filter] at hz
    have := rightB_lt hr z hz.1
    exact ⟨by omega, hz.1, hz.2⟩
  · simp at hz
theorem keptL_len {p : Int → Bool} {xs : List Int} : (keptL p xs).length ≤ xs.length := by
  unfold keptL; split
  · exact List.length_filter_le _ _
  · simp

/-- The first k are moved. -/
def mixed (ys : List Int) (x : Int) (k : Nat) : List Int := (ys.take k).map (fun z => z - x) ++ ys.drop k
theorem mixed_len (ys : List Int) (x : Int) (k : Nat) : (mixed ys x k).length = ys.length := by simp [mixed]; omega
theorem mixed_get (ys : List Int) (x : Int) (k : Nat) (hk : k < ys.length) : (mixed ys x k).getD k 0 = ys.getD k 0 := by
  have h1 : ((ys.take k).map (fun z => z - x)).length = k := by simp; omega
  unfold mixed
  rw [List.getD_eq_getElem?_getD, List.getElem?_append_right (by omega), h1]
  simp
theorem mixed_step (ys : List Int) (x : Int) (k : Nat) (hk : k < ys.length) : (mixed ys x k).set k (ys.getD k 0 - x) = mixed ys x (k + 1) := by
  have h1 : ((ys.take k).map (fun z => z - x)).length = k := by simp; omega
  unfold mixed
  rw [List.set_append_right _ _ (by omega), h1, Nat.sub_self, drop_cons (d := (0 : Int)) hk, take_succ' (d := (0 : Int)) hk, List.set_cons_zero, List.map_append, List.append_assoc]
  rfl
theorem mixed_end (ys : List Int) (x : Int) : mixed ys x ys.length = ys.map (fun z => z - x) := by simp [mixed]
theorem map_getD {α β : Type} (f : α → β) (xs : List α) (k : Nat) (d : α) : (xs.map f).getD k (f d) = f (xs.getD k d) := by simp [List.getD, List.getElem?_map]

set_option maxHeartbeats 1000000 in
theorem setShift_any (F : Nat → Prop) (A : Option Addr) (n c : Nat) (xs : List Int) (x : Int) (w : World) (h : IntsAt F w A n c xs) (hF : ∀ k, F k → k < w.heap.size) (hb : n * 8 ≤ 140737488351232) (hx : x ≤ 9223372036854775807) (hxs : ∀ z ∈ xs, z ≤ 9223372036854775807) :
    Calls Try.prog 25 #[.slice A n c, .int .i64 x] w fun e w' => GivesInts w.heap.size w' e (shiftL xs x) ∧ Chg Nothing w w' := by
  have H := hid h; clear h
  have hFF := hid hF; clear hF
  have hln := H.out.2.2.2.1
  by_cases hneg : x < 0
  · clear hln
    go_enter Try.func25, Try.ntmps25
    go_wp2_with fail
    go_ret
    exact ⟨by unfold shiftL; rw [if_pos hneg]; exact GivesInts.nil _ _, (Chg.refl _ _).alloc _⟩
  · have hx0 : 0 ≤ x := by omega
    have hys := hid (keptL_nonneg (p := fun z => decide (x ≤ z)) (xs := xs))
    have hyl : (keptL (fun z => decide (x ≤ z)) xs).length ≤ n := by have := keptL_len (p := fun z => decide (x ≤ z)) (xs := xs); omega
    have hsh : shiftL xs x = (keptL (fun z => decide (x ≤ z)) xs).map (fun z => z - x) := by unfold shiftL; rw [if_neg hneg]
    rw [hsh]
    clear hsh hln
    obtain ⟨ys, hye⟩ : ∃ ys, ys = keptL (fun z => decide (x ≤ z)) xs := ⟨_, rfl⟩
    rw [← hye] at hys hyl ⊢
    have HYE := hid hye; clear hye
    have hc1 := (Chg.refl Nothing w).alloc (.cells #[.int .i64 x] 3)
    have hrule := hid (plain_rule 44 (fun z => decide (x ≤ z)) w.heap.size x (w.alloc (.cells #[.int .i64 x] 3)).heap.size (by rw [World.size_alloc]; omega) shift1_enters (fun z W h => shift1_any w.heap.size x z W h))
    have hx9 := hid hxs; clear hxs
    have hB1 := hid (Blk.new w #[.int .i64 x] 3)
    go_enter Try.func25, Try.ntmps25
    go_wp2_with fail
    refine (kept_any F A n c xs _ _ _ _ Nothing (-1) _ (H.out.chg hc1 (fun _ _ _ h => h)) hb hrule.out (by omega) hB1.out (fun k _ h => h) (fun k hk => by have := hFF.out k hk; rw [World.size_alloc]; omega)).mono ?_
    rintro e w2 ⟨hg, hc2, z, hbx⟩
    rw [← HYE.out] at hg
    obtain ⟨X, cx, rfl, hown⟩ := hg.mono (b' := w.heap.size + 1) (by rw [World.size_alloc]; omega)
    have hc02 := hc1.trans hc2
    have hwx := hbx.lt
    clear hc1 hc2
    go_wp2_with fail
    go_loopw [14] (fun i wr => ∃ k : Nat, k ≤ ys.length ∧ i = .int .i64 k ∧ wr.ownsRow (w.heap.size + 1) 3 1 (.slice X ys.length cx) ys.length ((mixed ys x k).map (Value.int .i64)) ∧ Blk wr w.heap.size #[.int .i64 x] 3 ∧ Chg Nothing w wr) (fun i _ => ys.length - (intOf i).toNat)
    case atStart => exact ⟨0, Nat.zero_le _, rfl, by simpa [mixed] using hown, hbx, hc02⟩
    case round =>
      obtain ⟨k, hk, rfl, hown', hbx', hcr⟩ := hrel
      by_cases hlt : k < ys.length
      · obtain ⟨g, rfl, hgb, hgs, hcell, hfree, hset⟩ := own_at hown' hlt (.int .i64 0)
        have hv : ((mixed ys x k).map (Value.int .i64)).getD k (.int .i64 0) = .int .i64 (ys.getD k 0) := by rw [map_getD (Value.int .i64), mixed_get ys x k hlt]
        rw [hv] at hcell
        have hmem := hys.out (ys.getD k 0) (by rw [show ys.getD k 0 = ys[k] from by simp [hlt]]; exact List.getElem_mem hlt)
        have hst := hid (mixed_step ys x k hlt)
        have h9 := hx9.out _ hmem.2.1
        have h0 := hmem.1
        have hxv : x ≤ ys.getD k 0 := by have := hmem.2.2; simpa using this
        have c0 := hbx'.cell 0 (v := .int .i64 x) rfl
        generalize hyk : ys.getD k 0 = yk at *
        clear hv hmem hyk
        have hlen := hown'.1
        have hSET := hid hset; clear hset hown'
        have HBX := hid hbx'; clear hbx'
        have hklen : k < ys.length := hlt
        go_wp2_with fail
        go_region
        go_wp2
        go_roundw
        case rel =>
          have hst' := (Chg.refl (One g) wr).drew.setOne k (.int .i64 (yk - x))
          refine ⟨k + 1, by omega, by go_num, ?_, HBX.out.chg hst' (by unfold One; omega), hcr.then hst' (fun j hj e => by unfold One at e; omega)⟩
          rw [← hst.out, List.map_set]
          exact hSET.out _ _ ⟨Nothing, Chg.refl _ _, fun h => h⟩
        case measure => simp [intOf]; omega
      · obtain rfl : k = ys.length := by omega
        go_wp2
        go_ret
        rw [mixed_end] at hown'
        refine ⟨⟨X, cx, by simp, ?_⟩, hcr⟩
        have := own_base_mono hown' (b' := w.heap.size) (by omega)
        simpa using this

def below_ (k : Nat) : List Int := (List.range k).map (fun (j : Nat) => (j : Int))
theorem below_succ (k : Nat) : below_ (k + 1) = below_ k ++ [(k : Int)] := by simp [below_, List.range_succ]
theorem below_len (k : Nat) : (below_ k).length = k := by simp [below_]

def NotInv (w w1 : World) (F : Nat → Prop) (ba bl : Nat) (A : Option Addr) (n c : Nat) (xs : List Int) (N : Nat) (v i : Value) (wr : World) : Prop :=
  ∃ (k : Nat) (X : Option Addr) (cx m : Nat), k ≤ N ∧ m ≤ k ∧ i = .int .i64 k ∧ v = .slice X m cx ∧ Hid (((below_ k).filter (fun z => !decide (z ∈ xs))).length = m) ∧ wr.ownsRow w1.heap.size 3 1 (.slice X m cx) m (((below_ k).filter (fun z => !decide (z ∈ xs))).map (Value.int .i64)) ∧ AlongSt F ba bl A n c xs ((k : Int) - 1) wr ∧ Chg Nothing w wr ∧ w1.heap.size ≤ wr.heap.size

set_option maxHeartbeats 2000000 in
set_option maxRecDepth 1000000 in
theorem setNot_any (F : Nat → Prop) (A : Option Addr) (n c : Nat) (xs : List Int) (x : Int) (w : World) (h : IntsAt F w A n c xs) (hF : ∀ k, F k → k < w.heap.size) :
    Calls Try.prog 24 #[.slice A n c, .int .i64 x] w fun e w' => GivesInts w.heap.size w' e (notL xs x) ∧ Chg Nothing w w' := by
  have H := hid h; clear h
  have hFF := hid hF; clear hF
  have hnl : notL xs x = if rightB (-1) xs then (below_ (clip x)).filter (fun z => !decide (z ∈ xs)) else [] := rfl
  rw [hnl]
  clear hnl
  by_cases hr : rightB (-1) xs = true
  · rw [if_pos hr]
    have HR := hid hr
    obtain ⟨N, hN⟩ : ∃ N, N = clip x := ⟨_, rfl⟩
    rw [← hN]
    have hN' : (N : Int) = max 0 (min x 100000) := by rw [hN]; unfold clip; omega
    have hN5 : N ≤ 100000 := by omega
    have HN := hid hN'; clear hN' hN
    have hcase : (x ≤ 0 ∧ N = 0) ∨ (0 < x ∧ x ≤ 100000 ∧ x ≤ N ∧ N ≤ x) ∨ (100000 < x ∧ 100000 ≤ (N : Int) ∧ (N : Int) ≤ 100000) := by have := HN.out; omega
    have hright := setRight_any F A n c xs w H.out
    rw [hr] at hright
    have hright := hid hright
    clear hr
    rcases hcase with ⟨hx, rfl⟩ | ⟨hx, hx2, hx3, hx4⟩ | ⟨hx, hx3, hx4⟩
    · go_enter Try.func24, Try.ntmps24
      go_wp2
      go_step3
      go_wp2_with fail
      refine hright.out.mono ?_
      rintro e w' ⟨rfl, rfl⟩
      go_wp2_with fail
      refine (along_any F A n c xs w H.out hFF.out).mono ?_
      rintro e w1 ⟨ba, bl, rfl, h1, h2, h3, h4, hst, hc1⟩
      clear hst
      go_wp2
      go_step3
      go_wp2
      go_loop [5, 16] (fun v i => v = .slice none 0 0 ∧ i = .int .i64 0) (fun _ _ => 0)
      case atStart => exact ⟨rfl, rfl⟩
      case round =>
        obtain ⟨rfl, rfl⟩ := hrel
        go_wp2
        try rw [Exit.noGoto_ret]
        go_ret
        rw [show (below_ 0).filter (fun z => !decide (z ∈ xs)) = [] from rfl]
        exact ⟨GivesInts.nil _ _, hc1⟩
    all_goals
      go_enter Try.func24, Try.ntmps24
      go_wp2
      go_step3
      go_wp2_with fail
      refine hright.out.mono ?_
      rintro e w' ⟨rfl, rfl⟩
      go_wp2_with fail
      refine (along_any F A n c xs w H.out hFF.out).mono ?_
      rintro e w1 ⟨ba, bl, rfl, h1, h2, h3, h4, hst, hc1⟩
      have hw1 := hc1.size
      have hrule := hid (along_rule F ba bl A n c xs w1.heap.size HR.out h3 h4 (fun k hk => by have := hFF.out k hk; omega))
      have hst0 := hst (-1)
      have eg := along_enters
      clear hst
      go_wp2
      go_step3
      go_wp2
      go_loopw [5, 16] (fun v i wr => NotInv w w1 F ba bl A n c xs N v i wr) (fun _ i _ => N - (intOf i).toNat)
      case atStart => exact ⟨0, none, 0, 0, Nat.zero_le _, Nat.le_refl _, rfl, rfl, hid rfl, World.ownsRow_nil _ _ _ _, hst0, hc1, Nat.le_refl _⟩
      case round =>
        obtain ⟨k, X, cx, m, hk, hmk, rfl, rfl, hm, hown, hst', hcr, hwr⟩ := hrel
        have hbs := hid (below_succ k)
        rcases Nat.lt_or_ge k N with hlt | hge
        rotate_left
        · have hkN := Nat.le_antisymm hk hge
          go_wp2
          try rw [Exit.noGoto_ret]
          go_ret
          subst hkN
          refine ⟨⟨X, cx, ?_, ?_⟩, hcr⟩
          · rw [hm.out]; rfl
          · rw [hm.out]; exact own_base_mono hown (by omega)
        · have hfilt : (below_ (k + 1)).filter (fun z => !decide (z ∈ xs)) = (below_ k).filter (fun z => !decide (z ∈ xs)) ++ (if decide ((k : Int) ∈ xs) = true then [] else [(k : Int)]) := by
            rw [hbs.out, List.filter_append]; congr 1; by_cases hm : (k : Int) ∈ xs <;> simp [hm]
          have HFI := hid hfilt; clear hfilt
          go_wp2_with fail
          refine (along1_any F ba bl A n c xs ((k : Int) - 1) k wr hst' HR.out (by omega)).mono ?_
          rintro e w3 ⟨rfl, hst3, hc3⟩
          have hown3 := own_chg hown hc3 (fun k hk h => by have := own_of hown k hk; unfold One at h; omega)
          have hs3 := hc3.size
          have hcr3 := hcr.then hc3 (fun j hj e => by unfold One at e; omega)
          have hst4 := hid (show AlongSt F ba bl A n c xs (((k + 1 : Nat) : Int) - 1) w3 from by rw [show (((k + 1 : Nat) : Int) - 1) = (k : Int) from by omega]; exact hst3)
          clear hst' hcr hown hc3
          cases hp : decide ((k : Int) ∈ xs) with
          | true =>
            go_wp2
            go_roundw
            case rel => exact ⟨k + 1, X, cx, m, by omega, by omega, by go_num, rfl, hid (by rw [HFI.out, if_pos hp, List.append_nil, hm.out]), by rw [HFI.out, if_pos hp, List.append_nil]; exact hown3, hst4.out, hcr3, by omega⟩
            case measure => simp [intOf]; omega
          | false =>
            have hm5 : m ≤ 100000 := by omega
            go_wp2_with (at_builtin; refine append_one rfl _ _ 22 rfl w1.heap.size 3 (.int .i64 0) 8 Try.underlying22 infoI rfl X cx m _ rfl hown3 (.int .i64 k) rfl rfl ?_ ?_ ?_ ?_)
            · omega
            · omega
            · omega
            intro X' cx' w4 hown4 hc4 hX
            clear hX
            have ox := own_of hown3
            have hs4 := hc4.size
            have hst5 := hst4.out.chg hc4 (fun h => by have := ox _ h; omega) (fun h => by have := ox _ h; omega) (fun j _ hj h => by have := ox _ h; have := hFF.out j hj; omega)
            have hcr4 := hcr3.then hc4 (fun k hk h => by have := ox k h; omega)
            clear hown3 hc4 hst3 hcr3 ox
            go_wp2
            go_roundw
            case rel => exact ⟨k + 1, X', cx', m + 1, by omega, by omega, by go_num, rfl, hid (by rw [HFI.out, if_neg (by simp [hp]), List.length_append, hm.out]; rfl), by rw [HFI.out, if_neg (by simp [hp]), List.map_append]; exact hown4, hst5, hcr4, by omega⟩
            case measure => simp [intOf]; omega
  · rw [if_neg hr]
    have hrf : rightB (-1) xs = false := by simpa using hr
    have hright := setRight_any F A n c xs w H.out
    rw [hrf] at hright
    have hright := hid hright
    clear hr hrf
    go_enter Try.func24, Try.ntmps24
    go_wp2
    go_step3
    go_wp2_with fail
    refine hright.out.mono ?_
    rintro e w' ⟨rfl, rfl⟩
    go_wp2
    try rw [Exit.noGoto_ret]
    go_ret
    exact ⟨GivesInts.nil _ _, Chg.refl _ _⟩
end Go.Proofs.Ytemfmdhgalmgnaa
