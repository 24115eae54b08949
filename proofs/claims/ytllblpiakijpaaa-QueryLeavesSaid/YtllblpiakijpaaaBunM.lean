/- Joined texts: LeafB QlA QlB QlC. -/
import Derived.Test.YtllblpiakijpaaaBunF
import Derived.Test.YtllblpiakijpaaaBunC
import Derived.Test.YtllblpiakijpaaaBunH
import Derived.Deep.RegionLaw
import Derived.Test.YtllblpiakijpaaaBunK
import Derived.Test.YtllblpiakijpaaaBunI
/- Layer 7: leaf.Text. -/
namespace Go.Proofs.Ytllblpiakijpaaa
open Go.RowKit
set_option linter.unusedVariables false
attribute [local go_sem ↓] Go.wp_at_zero Go.wp_at_succ
def byteC (s : ByteArray) (i : Nat) : Cls := ofC (s.extract i (i + 1))
def textC (s : ByteArray) : List Cls := (List.range s.size).map (byteC s)
theorem textC_len (s : ByteArray) : (textC s).length = s.size := by unfold textC; simp
theorem textC_take (s : ByteArray) (k : Nat) (h : k < s.size) : (textC s).take (k + 1) = (textC s).take k ++ [byteC s k] := by
  rw [List.take_succ_eq_append_getElem (by rw [textC_len]; exact h)]
  congr 1
  simp [textC]
theorem clsL_new (w : World) (x : Cls) (j : Nat) (u : Value) (h : (clsL x)[j]? = some u) : (w.alloc (.cells #[.int .u64 (wd x 0), .int .u64 (wd x 1), .int .u64 (wd x 2), .int .u64 (wd x 3)] 70)).cell? ((⟨w.heap.size, 0, none⟩ : Addr).add j) = some u := by
  rw [add_plain, Nat.zero_add]
  exact (Blk.new w _ _).cell j (by simpa [clsL] using h)
def LtInv (w : World) (s : ByteArray) (K : Int) (iv : Value) (wr : World) : Prop := ∃ (k : Nat) (A : Option Addr) (c : Nat), k ≤ s.size ∧ iv = .int .i64 k ∧ Blk wr (w.heap.size + 1) #[.slice A k c, .int .i64 K] 36 ∧ Blk wr w.heap.size #[.slice none 0 0, .int .i64 0] 36 ∧
  Hid (wr.ownsRow w.heap.size 70 4 (.slice A k c) k (((textC s).take k).flatMap clsL)) ∧ (∀ j, Of A j → w.heap.size + 2 ≤ j) ∧ Chg Nothing w wr
/-- Behind a round. -/
theorem lt_step {w wr w3 : World} {s : ByteArray} {K : Int} {k c c' : Nat} {A A' : Option Addr} (hk : k < s.size) (hB : Blk wr (w.heap.size + 1) #[.slice A k c, .int .i64 K] 36) (hZ : Blk wr w.heap.size #[.slice none 0 0, .int .i64 0] 36) (hof : ∀ j, Of A j → w.heap.size + 2 ≤ j) (hC : Chg Nothing w wr)
    (hc3 : Chg (Of A) wr w3) (hown : w3.ownsRow w.heap.size 70 4 (.slice A' (k + 1) c') (k + 1) (((textC s).take k).flatMap clsL ++ clsL (byteC s k))) (hof' : ∀ j, Of A' j → Of A j ∨ wr.heap.size ≤ j) :
    ∀ V, V = w3.setCell ⟨w.heap.size + 1, 0, none⟩ (.slice A' (k + 1) c') → LtInv w s K (.int .i64 (k + 1 : Nat)) V := by
  rintro V rfl
  have hg : w.heap.size + 1 < wr.heap.size := hB.lt
  have h1 : ¬ Of A (w.heap.size + 1) := fun h => by have := hof _ h; omega
  have h2 : ¬ Of A w.heap.size := fun h => by have := hof _ h; omega
  have hof2 : ∀ j, Of A' j → w.heap.size + 2 ≤ j := fun j hj => by
    rcases hof' j hj with h | h
    · exact hof j h
    · omega
  have hs : Chg (One (w.heap.size + 1)) w3 (w3.setCell ⟨w.heap.size + 1, 0, none⟩ (.slice A' (k + 1) c')) := (Chg.refl _ _).setOne 0 _
  refine ⟨k + 1, A', c', hk, rfl, (hB.chg hc3 h1).set 0 _, (hZ.chg hc3 h2).other (by simp) _, hid ?_, hof2, ((hC.then hc3 (fun j hj h => by have := hof j h; omega))).then hs (fun j hj h => by unfold One at h; omega)⟩
  rw [textC_take s k hk, List.flatMap_append]
  rw [show [byteC s k].flatMap clsL = clsL (byteC s k) from by simp]
  exact own_chg hown hs (fun j hj h => by have := hof2 j hj; unfold One at h; omega)
set_option maxHeartbeats 8000000 in
set_option maxRecDepth 100000 in
theorem leafText_any (s : ByteArray) (K : Int) (w : World) (hs : s.size ≤ 1000000000) :
    Calls Try.prog 27 #[.string s, .int .i64 K] w fun e w' => ∃ A c, e = .returned (.agg #[.slice A s.size c, .int .i64 K]) ∧ ClsRow (fun k => w.heap.size ≤ k) w' A s.size c (textC s) ∧ Chg Nothing w w' := by
  go_enter Try.func27, Try.ntmps27
  go_wp2_with fail
  go_loopw [11] (fun iv wr => LtInv w s K iv wr) (fun iv _ => s.size - (intOf iv).toNat)
  case atStart =>
    exact ⟨0, none, 0, Nat.zero_le _, rfl, by have := Blk.new (w.alloc (.cells #[.slice none 0 0, .int .i64 0] 36)) #[.slice none 0 0, .int .i64 K] 36; rwa [World.size_alloc] at this, (Blk.new w _ _).alloc _, hid (World.ownsRow_nil _ _ _ _), (fun j ⟨a, e, _⟩ => by cases e), ((Chg.refl Nothing w).alloc _).alloc _⟩
  case round =>
    obtain ⟨k, A, c, hk, rfl, hB, hZ, hown, hof, hchg⟩ := hrel
    have x0 := hB.cell 0 (v := .slice A k c) rfl
    have x1 := hB.cell 1 (v := .int .i64 K) rfl
    have f0 := hB.free 0
    have hbl := hB.lt
    rcases Nat.lt_or_ge k s.size with hks | hks
    · have hBh := hid hB
      have hZh := hid hZ
      have hofh := hid hof
      have hch := hid hchg
      clear hB hZ hof hchg
      have hk0 : (0 : Int) ≤ (k : Int) := by omega
      have hks' : (k : Int) < (s.size : Int) := by omega
      have hexs : Hid ((s.extract k (k + 1)).size = 1) := hid (by simp; omega)
      have hOf := hid (fun w' => classOfL (s.extract k (k + 1)) w' (by have := hexs.out; omega))
      have hks2 : (k : Int) + 1 ≤ (s.size : Int) := by omega
      have hwr : IntKind.i64.wrap ((k : Int) + 1) = (k : Int) + 1 := by rw [IntKind.wrap_i64]; omega
      have hk1 : (0 : Int) ≤ (k : Int) + 1 := by omega
      have hk2 : (k : Int) ≤ (k : Int) + 1 := by omega
      have hk3 : ((k : Int) + 1).toNat = k + 1 := by omega
      have hm1 : k + 1 ≤ maxLen := by unfold maxLen; omega
      have hm2 : (k + 1) * 32 ≤ 140737488355328 := by omega
      have hbw : w.heap.size ≤ wr.heap.size := by have := hch.out.size; exact this
      have hOwn := hown
      go_wp2_with fail
      go_region_law
        (first
        | (go_simp; go_at_call 46; (with_reducible refine (hOf.out _).mono ?_); rintro e w2 ⟨rfl, hc2⟩; have hC2 := hid ((Chg.refl Nothing wr).drew.trans hc2); have hB2 := hBh.out.chg hC2.out id; have y0 := hB2.cell 0 (v := .slice A k c) rfl; have e0 := hB2.free 0; have hl2 := hB2.lt; clear hB2)
        | (refine step_append_gen (o := ⟨some 23, _, _, _, _, _⟩) rfl _ _ 34 rfl w.heap.size 70 (.agg #[.int .u64 0, .int .u64 0, .int .u64 0, .int .u64 0]) 4 32 Try.underlying34 infoCl rfl (by decide) A c k _ rfl (own_chg hOwn.out (hC2.out.alloc _) (fun _ _ h => h)) (some ⟨w2.heap.size, 0, none⟩) 1 1 (clsL (byteC s k)) rfl rfl (fun e => by cases e) (Nat.le_refl _) (fun ad e j u hj => by injection e with e; subst e; exact clsL_new _ _ _ _ hj) (clsL_one _) hm1 hm2 (Nat.le_trans hbw (Nat.le_trans hC2.out.size (by rw [World.size_alloc]; exact Nat.le_succ _))) ?_; intro A4 c4 w4 hown4 hc4 hA4; have hB4 := (hBh.out.chg (hC2.out.alloc _) id).chg hc4 (fun h => by have := hofh.out _ h; omega); have e4 := hB4.free 0; have y4 := hB4.cell 0 (v := .slice A k c) rfl; have hl4 := hB4.lt; clear hB4))
      all_goals
        have hD := hid (lt_step hks hBh.out hZh.out hofh.out hch.out (Chg.then (Chg.mono (hC2.out.alloc _) (fun _ _ h => h.elim)) hc4 (fun _ _ h => h)) hown4 (fun j hj => by rcases hA4 j hj with h | h; exact .inl h; exact .inr (Nat.le_trans (Nat.le_trans hC2.out.size (by rw [World.size_alloc]; exact Nat.le_succ _)) h)) _ rfl)
        clear hown4 hc4 hA4 y0 y4 x0 x1
        go_wp2
        go_roundw
        case rel => exact hD.out
        case measure => simp [intOf]; omega
    · obtain rfl : k = s.size := by omega
      have hd : decide (((s.size : Nat) : Int) < (s.size : Int)) = false := decide_eq_false (by omega)
      have z0 := hZ.cell 0 (v := .slice none 0 0) rfl
      have z1 := hZ.cell 1 (v := .int .i64 0) rfl
      have g0 := hZ.free 0
      have g1 := hZ.free 1
      have hzl := hZ.lt
      have hBh := hid hB
      have hZh := hid hZ
      have hofh := hid hof
      have hch := hid hchg
      clear hB hZ hof hchg
      go_wp2
      have hP := (hZh.out.set 0 (.slice A s.size c)).set 1 (.int .i64 K)
      have r0 := hP.cell 0 (v := .slice A s.size c) rfl
      have r1 := hP.cell 1 (v := .int .i64 K) rfl
      have hcs : Chg (One w.heap.size) wr ((wr.setCell ⟨w.heap.size, 0, none⟩ (.slice A s.size c)).setCell ⟨w.heap.size, 1, none⟩ (.int .i64 K)) := ((Chg.refl _ _).setOne 0 _).setOne 1 _
      refine bodyPost_ret (v := .agg #[.slice A s.size c, .int .i64 K]) (by simp [results, Try.results27, go_sem, r0, r1]) rfl ⟨A, c, rfl, ?_, hch.out.then hcs (fun j hj h => by unfold One at h; omega)⟩
      have ho := own_chg hown.out hcs (fun j hj h => by have := hofh.out j hj; unfold One at h; omega)
      rw [List.take_of_length_le (by rw [textC_len]; exact Nat.le_refl _)] at ho
      exact (RowAt.of_own ho).mono (fun j _ h => h.2)
end Go.Proofs.Ytllblpiakijpaaa

/- Layer 14: plain words of what Parse answers; the two texts of 'alive'. No program is walked. -/
namespace Go.Proofs.Ytllblpiakijpaaa
open Go.RowKit
set_option linter.unusedVariables false
theorem TokRd.place {s : ByteArray} {a : Nat} {R : Rd Tok} (h : TokRd s a R) : ∀ t b, R = .ok t b → t.at_ = a := by
  cases h with
  | @pat R0 h k =>
    intro t b e
    cases R0 with
    | ok ys n => injection e with e1 e2; subst e1; rfl
    | bad p e' => cases e
  | none => intro t b e; cases e
  | sign => intro t b e; injection e with e1 e2; subst e1; rfl
  | @num k m h h1 h2 h3 =>
    intro t b e
    cases hR : numS s (a + 1) m with
    | ok v n => rw [hR] at e; injection e with e1 e2; subst e1; rfl
    | bad p e' => rw [hR] at e; cases e
theorem LexRun.places {s : ByteArray} {a : Nat} {l : List Tok} {R : Rd (List Tok)} (h : LexRun s a l R) : (∀ t ∈ l, t.at_ ≤ s.size) → ∀ l' b, R = .ok l' b → ∀ t ∈ l', t.at_ ≤ s.size := by
  induction h with
  | stop h => intro hl l' b e; injection e with e1 e2; subst e1; exact hl
  | blank h hb k ih => exact ih
  | bad h hb k => intro hl l' b e; cases e
  | step h hb k r ih =>
    intro hl
    refine ih ?_
    intro t ht
    rw [List.mem_append] at ht
    rcases ht with ht | ht
    · exact hl t ht
    · simp only [List.mem_singleton] at ht
      subst ht
      rw [k.place _ _ rfl]; omega
theorem lexS_places {s : ByteArray} {R : Rd (List Tok)} (h : lexS s R) : ∀ l b, R = .ok l b → ∀ t ∈ l, t.at_ ≤ s.size := by
  unfold lexS at h
  by_cases hb : 1000 < s.size
  · rw [if_pos hb] at h; intro l b e; rw [h] at e; cases e
  · rw [if_neg hb] at h; exact h.places (by simp)
/-- What is parsed is right; a place is one of the text, or its end. -/
theorem parseR_facts {s : ByteArray} {L : List Nd} {a no : Int} (h : ParseR s L a no) : 0 ≤ a ∧ a ≤ (s.size : Nat) ∧ ((no = 0 ∧ a = (s.size : Nat) ∧ ∃ t : GT, t.right ∧ L = t.flat ∧ t.flat.length ≤ 64 ∧ t.deep ≤ 16) ∨ (no ≠ 0 ∧ L = [])) := by
  cases h with
  | @lex a no h h0 =>
    have := lexS_at h
    simp only [Rd.at_] at this
    exact ⟨by omega, by omega, .inr ⟨h0, rfl⟩⟩
  | @toks ts nx R L a no h h1 h2 =>
    have hp := lexS_places h _ _ rfl
    have hpr := lexS_printable h
    have hf := fine_query _ h1
    cases R with
    | bad q =>
      obtain ⟨rfl, rfl, rfl⟩ := h2
      obtain ⟨pre, e⟩ := hf.bad q rfl
      cases q with
      | nil => exact ⟨Int.natCast_nonneg _, Int.le_refl _, .inr ⟨by decide, rfl⟩⟩
      | cons t q =>
        have := hp t (by rw [e]; simp)
        exact ⟨Int.natCast_nonneg _, Int.ofNat_le.2 this, .inr ⟨by decide, rfl⟩⟩
    | ok L0 q =>
      obtain ⟨pre, e, -, -, htree⟩ := hf.ok _ _ rfl
      cases q with
      | cons t q =>
        obtain ⟨rfl, rfl, rfl⟩ := h2
        have := hp t (by rw [e]; simp)
        exact ⟨by omega, by omega, .inr ⟨by decide, rfl⟩⟩
      | nil =>
        rcases h2 with ⟨-, rfl, rfl, rfl⟩ | ⟨-, -, rfl, rfl, rfl⟩ | ⟨h64, h16, rfl, rfl, rfl⟩
        · exact ⟨by decide, by omega, .inr ⟨by decide, rfl⟩⟩
        · exact ⟨by decide, by omega, .inr ⟨by decide, rfl⟩⟩
        · obtain ⟨g, hg, rfl, hn⟩ := htree hpr
          rw [depthN_tree hg] at h16
          exact ⟨by omega, by omega, .inl ⟨rfl, rfl, g, ⟨hg, hn⟩, rfl, h64, h16⟩⟩
theorem rightN_nil : rightN [] = false := rfl
theorem parseR_right {s : ByteArray} {L : List Nd} {a no : Int} (h : ParseR s L a no) : rightN L = decide (no = 0) := by
  obtain ⟨-, -, h⟩ := parseR_facts h
  rcases h with ⟨rfl, -, t, ht, rfl, h64, h16⟩ | ⟨h0, rfl⟩
  · rw [tree_rightN ht h64 h16]; rfl
  · rw [decide_eq_false h0]; rfl
/-- What is printed is parsed as that tree. -/
theorem parse_printed {t : GT} (h : t.right) (h64 : t.flat.length ≤ 64) (h16 : t.deep ≤ 16) (hs : t.text.size ≤ 1000) : ParseR t.text t.flat (t.text.size : Nat) 0 := by
  obtain ⟨ts, h1, h2⟩ := text_parsed h hs
  exact .toks h1 (h2 _ (Nat.lt_succ_self _)) (.inr (.inr ⟨h64, by rw [depthN_tree h.1]; exact h16, rfl, rfl, rfl⟩))
/-! ### The texts of alive -/
def sQ : ByteArray := ⟨#[34, 97, 34, 32, 38, 32, 34, 98, 34, 32, 124, 32, 33, 34, 99, 100, 34, 126, 49]⟩
def sQ2 : ByteArray := ⟨#[34, 97, 34, 32, 34, 98, 34]⟩
def bA : ByteArray := ⟨#[97]⟩
def bB : ByteArray := ⟨#[98]⟩
def bCD : ByteArray := ⟨#[99, 100]⟩
def tQ : GT := .two ⟨3, 0, [], 0⟩ (.two ⟨2, 0, [], 0⟩ (.leaf ⟨1, 0, textC bA, 0⟩) (.leaf ⟨1, 0, textC bB, 0⟩)) (.one ⟨4, 0, [], 0⟩ (.leaf ⟨1, 0, textC bCD, 1⟩))
theorem tQ_text : tQ.text = sQ := by decide +kernel
theorem tQ_right : tQ.right := ⟨⟨.inr rfl, ⟨.inl rfl, rfl, rfl⟩, .inl rfl, rfl⟩, fun x hx => (nodeD_iff x).1 ((List.all_eq_true.1 (show tQ.flat.all nodeD = true from by decide +kernel)) x hx)⟩
theorem parse_sQ : ParseR sQ tQ.flat 19 0 := by
  have := parse_printed tQ_right (by decide) (by decide) (by rw [tQ_text]; decide)
  rw [tQ_text] at this
  exact this
theorem pat_A : printS 8 0 (textC bA) = some ⟨#[34, 97, 34]⟩ := by decide +kernel
theorem pat_B : printS 8 0 (textC bB) = some ⟨#[34, 98, 34]⟩ := by decide +kernel
theorem parse_sQ2 : ParseR sQ2 [] 4 140 := by
  have h1 := (TextRun.tok (TextRun.nil) pat_A).blank
  have h2 := TextRun.tok h1 pat_B
  have h3 := h2.lex (by decide)
  rw [show (ByteArray.empty ++ (⟨#[34, 97, 34]⟩ : ByteArray) ++ blankS ++ ⟨#[34, 98, 34]⟩) = sQ2 from by decide +kernel] at h3
  refine .toks h3 (R := .ok [⟨1, 0, textC bA, 0⟩] [⟨8, 4, 0, textC bB⟩]) ?_ ⟨rfl, rfl, rfl⟩
  refine .go (L := [⟨1, 0, textC bA, 0⟩]) (q := [⟨8, 4, 0, textC bB⟩]) (.go (L := [⟨1, 0, textC bA, 0⟩]) (q := [⟨8, 4, 0, textC bB⟩]) ?_ (.stop ?_)) (.stop ?_)
  · rw [itemR_succ]
    exact ItemStep.pat (t := ⟨8, 0, 0, textC bA⟩) rfl (fun t r e => by injection e with e1 e2; subst e1; decide)
  · exact fun t r e => by injection e with e1 e2; subst e1; decide
  · exact fun t r e => by injection e with e1 e2; subst e1; decide
/-! ### Leaves by the nodes alone -/
theorem leavesP_len (ps : List NP) : (leavesP ps).length = ((ps.map NP.x).filter fun x => decide (x.kind = 1)).length := by
  unfold leavesP
  rw [List.length_map, List.filter_map, List.length_map]; rfl
theorem longL_map (ps : List NP) : longL (leavesP ps) = ((ps.map NP.x).filter fun x => decide (x.kind = 1)).foldl (fun m x => max m x.p.length) 0 := by
  unfold longL leavesP
  rw [List.filter_map, List.foldl_map, List.foldl_map]; rfl
end Go.Proofs.Ytllblpiakijpaaa

/- Layer 14's laws: alive. -/
namespace Go.Proofs.Ytllblpiakijpaaa
open Go.RowKit
set_option linter.unusedVariables false
attribute [local go_sem ↓] Go.wp_at_zero Go.wp_at_succ
theorem NRow.new {w : World} {F : Nat → Prop} (ps : List NP) (cs : Array Value) (n : Nat) (h : cs = (ps.flatMap ndL).toArray) (hl : ps.length = n) (hn : n ≤ 9223372036854775807) (T : TypeId) (hels : ∀ p ∈ ps, NRead F w p) : NRow (fun _ => True) (w.alloc (.cells cs T)) (some ⟨w.heap.size, 0, none⟩) n n ps := by
  subst h
  refine ⟨hl, ⟨(fun e => by cases e), Nat.le_refl _, hn, by rw [flat_len ndL 4 ndL_len, hl], fun h0 => ⟨w.heap.size, 0, rfl, trivial, by rw [World.size_alloc]; omega, fun j hj => ?_⟩⟩, fun p hp => ⟨((hels p hp).row.chg ((Chg.refl Nothing w).alloc _) (fun _ _ _ h => h)).mono (fun _ _ _ => trivial), (hels p hp).len⟩⟩
  have hlj : j < (ps.flatMap ndL).length := by rw [flat_len ndL 4 ndL_len, hl]; exact hj
  rw [Nat.zero_add]
  refine (Blk.new w _ T).cell j ?_
  rw [List.getElem?_toArray, List.getD_eq_getElem?_getD, List.getElem?_eq_getElem hlj]; rfl
theorem tQ_len : tQ.flat.length = 6 := rfl
theorem tQ_rightN : rightN tQ.flat = true := by decide +kernel
theorem tQ_depth : depthN tQ.flat = 3 := by decide +kernel
theorem tQ_tail : rightN (tQ.flat.drop 1) = false := by decide +kernel
theorem tQ_init : depthN (tQ.flat.take 5) = 0 := by decide +kernel
theorem tQ_long : (tQ.flat.filter fun x => decide (x.kind = 1)).foldl (fun m x => max m x.p.length) 0 = 2 := by decide +kernel
theorem tQ_leaves : (tQ.flat.filter fun x => decide (x.kind = 1)).length = 3 := by decide +kernel
set_option maxHeartbeats 16000000 in
set_option maxRecDepth 100000 in
theorem alive14 (w : World) : Calls Try.prog 10 #[] w fun e w' => e = .returned (.bool true) ∧ Chg Nothing w w' := by
  go_enter Try.func10, Try.ntmps10
  go_wp2_with fail
  refine (parse_any sQ _ _ _ parse_sQ _ (by decide)).mono ?_
  rintro e w1 ⟨A, n, c, ps, rfl, hR, hps, hc1⟩
  obtain rfl : n = 6 := by have := congrArg List.length hps; rw [List.length_map, hR.len] at this; exact this
  have hle := hR.row.le
  have hmx := hR.row.max
  have hRh := hid hR
  have hpsh := hid hps
  have hC1 := hid hc1
  clear hR hps hc1
  go_wp2_with fail
  refine (parse_any sQ2 _ _ _ parse_sQ2 _ (by decide)).mono ?_
  rintro e w2 ⟨A', n', c', ps', rfl, -, -, hc2⟩
  have hR2 := hid (hRh.out.calm hc2)
  have hC2 := hid (hC1.out.trans hc2)
  have hPr := hid (show Calls Try.prog 25 #[.slice A 6 c] w2 fun e w' => e = .returned (.tuple #[.string sQ, .bool true]) ∧ Chg Nothing w2 w' from by
    have := print_yes (fun _ => True) A 6 c ps tQ w2 hR2.out (by decide) (by rw [hpsh.out]; exact tQ_rightN) tQ_right hpsh.out
    rw [tQ_text] at this; exact this)
  clear hc2 hRh hC1
  go_wp2_with fail
  refine (hPr.out).mono ?_
  rintro e w3 ⟨rfl, hc3⟩
  have hR3 := hid (hR2.out.calm hc3)
  have hC3 := hid (hC2.out.trans hc3)
  clear hc3 hR2 hC2 hPr
  go_wp2_with fail
  refine (print_no (fun _ => True) none 0 0 [] w3 (NRow.nil _ _) (by decide) rfl).mono ?_
  rintro e w4 ⟨rfl, hc4⟩
  have hR4 := hid (hR3.out.calm hc4)
  have hC4 := hid (hC3.out.trans hc4)
  clear hc4 hR3 hC3
  go_wp2_with fail
  refine (leafText_any bA 0 w4 (by decide)).mono ?_
  rintro e w5 ⟨B1, d1, rfl, hL1, hc5⟩
  have hR5 := hid (hR4.out.calm hc5)
  have hC5 := hid (hC4.out.trans hc5)
  have hL1h := hid (hL1.mono (G := fun _ => True) (fun _ _ _ => trivial))
  clear hc5 hR4 hC4 hL1
  go_wp2_with fail
  refine (leafText_any bB 0 w5 (by decide)).mono ?_
  rintro e w6 ⟨B2, d2, rfl, hL2, hc6⟩
  have hR6 := hid (hR5.out.calm hc6)
  have hC6 := hid (hC5.out.trans hc6)
  have hL16 := hid (hL1h.out.chg hc6 (fun _ _ _ h => h))
  have hL2h := hid (hL2.mono (G := fun _ => True) (fun _ _ _ => trivial))
  clear hc6 hR5 hC5 hL2 hL1h
  go_wp2_with fail
  refine (leafText_any bCD 1 w6 (by decide)).mono ?_
  rintro e w7 ⟨B3, d3, rfl, hL3, hc7⟩
  have hR7 := hid (hR6.out.calm hc7)
  have hC7 := hid (hC6.out.trans hc7)
  have hL17 := hid (hL16.out.chg hc7 (fun _ _ _ h => h))
  have hL27 := hid (hL2h.out.chg hc7 (fun _ _ _ h => h))
  have hL3h := hid (hL3.mono (G := fun _ => True) (fun _ _ _ => trivial))
  clear hc7 hR6 hC6 hL3 hL16 hL2h
  go_wp2_with fail
  obtain ⟨W, hW⟩ : ∃ W, W = w7.alloc (.cells #[.int .i64 3, .int .i64 0, .slice none 0 0, .int .i64 0, .int .i64 2, .int .i64 0, .slice none 0 0, .int .i64 0, .int .i64 1, .int .i64 0, .slice B1 bA.size d1, .int .i64 0, .int .i64 1, .int .i64 0, .slice B2 bB.size d2, .int .i64 0, .int .i64 4, .int .i64 0, .slice none 0 0, .int .i64 0, .int .i64 1, .int .i64 0, .slice B3 bCD.size d3, .int .i64 1] 40) := ⟨_, rfl⟩
  have hcW : Chg Nothing w7 W := by rw [hW]; exact (Chg.refl Nothing w7).alloc _
  have hQ := hid (NRow.new (w := w7) (F := fun _ => True) [⟨⟨3, 0, [], 0⟩, none, 0, 0⟩, ⟨⟨2, 0, [], 0⟩, none, 0, 0⟩, ⟨⟨1, 0, textC bA, 0⟩, B1, bA.size, d1⟩, ⟨⟨1, 0, textC bB, 0⟩, B2, bB.size, d2⟩, ⟨⟨4, 0, [], 0⟩, none, 0, 0⟩, ⟨⟨1, 0, textC bCD, 1⟩, B3, bCD.size, d3⟩] _ 6 rfl rfl (by decide) 40 (fun p hp => by
    simp only [List.mem_cons, List.not_mem_nil, or_false] at hp
    rcases hp with rfl | rfl | rfl | rfl | rfl | rfl
    · exact ⟨RowAt.none _ _ _, rfl⟩
    · exact ⟨RowAt.none _ _ _, rfl⟩
    · exact ⟨hL17.out, textC_len _⟩
    · exact ⟨hL27.out, textC_len _⟩
    · exact ⟨RowAt.none _ _ _, rfl⟩
    · exact ⟨hL3h.out, textC_len _⟩))
  have hR8 := hid (hR7.out.calm hcW)
  have hC8 := hid (hC7.out.trans hcW)
  have hsame : sameN (ps.map NP.x) (([⟨⟨3, 0, [], 0⟩, none, 0, 0⟩, ⟨⟨2, 0, [], 0⟩, none, 0, 0⟩, ⟨⟨1, 0, textC bA, 0⟩, B1, bA.size, d1⟩, ⟨⟨1, 0, textC bB, 0⟩, B2, bB.size, d2⟩, ⟨⟨4, 0, [], 0⟩, none, 0, 0⟩, ⟨⟨1, 0, textC bCD, 1⟩, B3, bCD.size, d3⟩] : List NP).map NP.x) = true := (sameN_iff _ _).2 (by rw [hpsh.out]; rfl)
  have hS := hid (querySame_any (fun _ => True) (fun _ => True) A 6 c ps _ 6 6 _ _ hR8.out (hW ▸ hQ.out))
  rw [hsame] at hS
  rw [hW] at hS
  clear hsame hQ hL17 hL27 hL3h
  refine (hS.out).mono ?_
  rw [← hW]
  replace hW := hid hW
  rintro e w8 ⟨rfl, hc8⟩
  have hR9 := hid (hR8.out.calm hc8)
  have hC9 := hid (hC8.out.trans hc8)
  have hstr : (sQ.toList == [34, 97, 34, 32, 38, 32, 34, 98, 34, 32, 124, 32, 33, 34, 99, 100, 34, 126, 49]) = true := by decide +kernel
  clear hc8 hS hR7 hC7 hcW hR8 hC8
  have hRt := hid (fun (w' : World) (hc : Chg Nothing w8 w') => by have := Right_any (fun _ => True) A 6 c ps w' (hR9.out.calm hc) (by decide); rw [hpsh.out, tQ_rightN] at this; exact this)
  have hDp := hid (fun (w' : World) (hc : Chg Nothing w8 w') => by have := Depth_any (fun _ => True) A 6 c ps w' (hR9.out.calm hc) (by decide); rw [hpsh.out, tQ_depth] at this; exact this)
  have hLg := hid (fun (w' : World) (hc : Chg Nothing w8 w') => by have := longest_any (fun _ => True) A 6 c ps w' (hR9.out.calm hc) (by decide); rw [longL_map, hpsh.out, tQ_long] at this; exact this)
  have hLv := hid (fun (w' : World) (hc : Chg Nothing w8 w') => leaves_any (fun _ => True) A 6 c ps w' (hR9.out.calm hc) (by decide))
  have hrun1 := run_from elemNd sizeNd A 6 c 1 1 rfl (by decide)
  have hrun2 := run_upto elemNd sizeNd A 6 c 5 5 rfl (by omega)
  obtain ⟨p1, p2, -, -, hq2, -, hN2, -⟩ := hR9.out.pre (L := tQ.flat.take 1) (M := tQ.flat.drop 1) hpsh.out
  obtain ⟨p3, p4, -, hq3, -, hN3, -, -⟩ := hR9.out.pre (L := tQ.flat.take 5) (M := tQ.flat.drop 5) hpsh.out
  have hRt2 := hid (fun (w' : World) (hc : Chg Nothing w8 w') => by have := Right_any (fun _ => True) _ 5 _ p2 w' (NRow.calm hN2 hc) (by decide); rw [hq2, tQ_tail] at this; exact this)
  have hDp2 := hid (fun (w' : World) (hc : Chg Nothing w8 w') => by have := Depth_any (fun _ => True) _ 5 _ p3 w' (NRow.calm hN3 hc) (by decide); rw [hq3, tQ_init] at this; exact this)
  clear hN2 hN3 hq2 hq3
  go_wp2_with fail
  refine (hRt.out _ (Chg.refl _ _)).mono ?_
  rintro e w9 ⟨rfl, hd1⟩
  have hD1 := hid hd1
  clear hd1
  go_wp2_with fail
  refine (hDp.out _ hD1.out).mono ?_
  rintro e w10 ⟨rfl, hd⟩
  have hD2 := hid (hD1.out.trans hd)
  clear hd hD1
  go_wp2_with fail
  refine (hLg.out _ hD2.out).mono ?_
  rintro e w11 ⟨rfl, hd⟩
  have hD3 := hid (hD2.out.trans hd)
  clear hd hD2
  go_wp2_with fail
  refine (hLv.out _ hD3.out).mono ?_
  rintro e w12 ⟨B, j, d, rfl, hLR, -, hd⟩
  obtain rfl : j = 3 := by have := hLR.len; rw [leavesP_len, hpsh.out, tQ_leaves] at this; exact this.symm
  have hD4 := hid (hD3.out.trans hd)
  clear hd hD3 hLR
  go_wp2_with fail
  refine (hRt2.out _ hD4.out).mono ?_
  rintro e w13 ⟨rfl, hd⟩
  have hD5 := hid (hD4.out.trans hd)
  clear hd hD4
  go_wp2_with fail
  refine (hDp2.out _ hD5.out).mono ?_
  rintro e w14 ⟨rfl, hd⟩
  have hD6 := hid (hD5.out.trans hd)
  clear hd hD5
  go_wp2
  go_ret
  exact ⟨rfl, hC9.out.trans hD6.out⟩
end Go.Proofs.Ytllblpiakijpaaa

/- Layer 14's laws: few. -/
namespace Go.Proofs.Ytllblpiakijpaaa
open Go.RowKit
set_option linter.unusedVariables false
def sumL (ps : List NP) : Nat := ps.foldl (fun m p => m + p.l) 0
theorem sumL_take (ps : List NP) (k : Nat) (h : k < ps.length) : sumL (ps.take (k + 1)) = sumL (ps.take k) + (ps.getD k np0).l := by
  unfold sumL
  rw [List.take_succ_eq_append_getElem h, List.foldl_append]
  simp [h]
def FwInv (w : World) (n : Nat) (ps : List NP) (ov iv : Value) (wr : World) : Prop := ∃ (k m : Nat), k ≤ n ∧ iv = .int .i64 k ∧ ov = .int .i64 m ∧ Hid (m = sumL (ps.take k)) ∧ m ≤ k * 4398046510976 ∧ Chg Nothing w wr
def FxInv (w : World) (n : Nat) (ov iv : Value) (wr : World) : Prop := ∃ (k : Nat) (x : Int), k ≤ n ∧ iv = .int .i64 k ∧ ov = .int .i64 x ∧ Chg Nothing w wr
def fewB (n : Nat) (ps : List NP) : Bool := decide (n ≤ 200) && decide (sumL ps ≤ 2000)
set_option maxHeartbeats 8000000 in
set_option maxRecDepth 100000 in
theorem few_any (F : Nat → Prop) (A : Option Addr) (n c : Nat) (ps : List NP) (w : World) (H : NRow F w A n c ps) (hl : ∀ p ∈ ps, p.l * 32 ≤ 140737488351232) (hn : n * 48 ≤ 140737488351232) :
    Calls Try.prog 15 #[.slice A n c] w fun e w' => e = .returned (.bool (fewB n ps)) ∧ Chg Nothing w w' := by
  have HH := hid H
  have hle := H.row.le
  have hmx := H.row.max
  have hlen := hid H.len
  have hlh := hid hl
  clear H hl
  by_cases hbig : 200 < n
  · have hf : fewB n ps = false := by unfold fewB; rw [decide_eq_false (by omega)]; rfl
    rw [hf]
    clear hf
    go_enter Try.func15, Try.ntmps15
    go_wp2_with fail
    go_loopw [3, 8] (fun ov iv wr => FxInv w n ov iv wr) (fun _ iv _ => n - (intOf iv).toNat)
    case atStart => exact ⟨0, 0, Nat.zero_le _, rfl, rfl, Chg.refl _ _⟩
    case round =>
      obtain ⟨k, x, hk, rfl, rfl, hchg⟩ := hrel
      rcases Nat.lt_or_ge k n with hkn | hkn
      · obtain ⟨g, o, p, rfl, -, hgl, hp, hpm, -, c0, c1, c2, c3⟩ := (HH.out.calm hchg).four hkn
        have hk0 : (0 : Int) ≤ (k : Int) := by omega
        have hkn' : (k : Int) < (n : Int) := by omega
        have hcx := hid (hchg.alloc (.cells #[.int .i64 p.x.kind, .int .i64 p.x.n, .slice p.A p.l p.c, .int .i64 p.x.K] 40))
        clear hp hpm hchg
        go_wp2
        go_roundw
        case rel => exact ⟨k + 1, _, hkn, by go_num, rfl, hcx.out⟩
        case measure => simp [intOf]; omega
      · have hd : decide ((k : Int) < (n : Int)) = false := decide_eq_false (by omega)
        have hb : decide ((n : Int) ≤ 200) = false := decide_eq_false (by omega)
        go_wp2
        go_ret
        exact ⟨rfl, hchg⟩
  · have hf : fewB n ps = decide (sumL ps ≤ 2000) := by unfold fewB; rw [decide_eq_true (by omega)]; rfl
    rw [hf]
    clear hf
    obtain ⟨sm, hsm⟩ : ∃ sm, sm = sumL ps := ⟨_, rfl⟩
    rw [← hsm]
    replace hsm := hid hsm
    go_enter Try.func15, Try.ntmps15
    go_wp2_with fail
    go_loopw [3, 8] (fun ov iv wr => FwInv w n ps ov iv wr) (fun _ iv _ => n - (intOf iv).toNat)
    case atStart => exact ⟨0, 0, Nat.zero_le _, rfl, rfl, hid rfl, by omega, Chg.refl _ _⟩
    case round =>
      obtain ⟨k, m, hk, rfl, rfl, hm, hmb, hchg⟩ := hrel
      rcases Nat.lt_or_ge k n with hkn | hkn
      · obtain ⟨g, o, p, rfl, -, hgl, hp, hpm, -, c0, c1, c2, c3⟩ := (HH.out.calm hchg).four hkn
        have hk0 : (0 : Int) ≤ (k : Int) := by omega
        have hkn' : (k : Int) < (n : Int) := by omega
        have hcx := hid (hchg.alloc (.cells #[.int .i64 p.x.kind, .int .i64 p.x.n, .slice p.A p.l p.c, .int .i64 p.x.K] 40))
        have hpl := hlh.out p hpm
        have hnx := hid (show m + p.l = sumL (ps.take (k + 1)) from by rw [sumL_take ps k (by rw [hlen.out]; exact hkn), ← hp, hm.out])
        clear hp hpm hchg hm
        have hml : m + p.l ≤ (k + 1) * 4398046510976 := by omega
        have hmi : (m : Int) + (p.l : Int) ≤ 900000000000000 := by omega
        have hm0 : (0 : Int) ≤ (m : Int) + (p.l : Int) := by omega
        go_wp2
        go_roundw
        case rel => exact ⟨k + 1, m + p.l, hkn, by go_num, by go_num, hnx, hml, hcx.out⟩
        case measure => simp [intOf]; omega
      · obtain rfl : k = n := by omega
        have hd : decide ((k : Int) < (k : Int)) = false := decide_eq_false (by omega)
        have hb : decide ((k : Int) ≤ 200) = true := decide_eq_true (by omega)
        have hfin : m = sm := by rw [hm.out, hsm.out, List.take_of_length_le (by rw [hlen.out]; exact Nat.le_refl _)]
        subst hfin
        have hx : decide ((m : Int) ≤ 2000) = decide (m ≤ 2000) := by
          by_cases h : m ≤ 2000
          · rw [decide_eq_true h, decide_eq_true (by omega)]
          · rw [decide_eq_false h, decide_eq_false (by omega)]
        replace hx := hid hx
        clear hm
        go_wp2
        go_ret
        exact ⟨(show Ending.returned (Value.bool (decide ((m : Int) ≤ 2000))) = _ from by rw [hx.out]), hchg⟩
end Go.Proofs.Ytllblpiakijpaaa
