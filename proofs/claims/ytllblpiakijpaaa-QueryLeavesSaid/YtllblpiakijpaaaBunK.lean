/- Joined texts: QryV QryW QryX QryY QryZ PqA PqB. -/
import Derived.Test.YtllblpiakijpaaaBunJ
import Derived.Test.YtllblpiakijpaaaBunI
import Derived.Test.YtllblpiakijpaaaBunG
import Derived.Test.YtllblpiakijpaaaBunE
import Derived.Test.YtllblpiakijpaaaBunH
import Derived.Test.YtllblpiakijpaaaBunF
/- Layer 14: Parse. -/
namespace Go.Proofs.Ytllblpiakijpaaa
open Go.RowKit
set_option linter.unusedVariables false
/-- What is answered of the tokens of a text of en bytes. -/
def QEnd (en : Int) : PR → List Nd → Int → Int → Prop
  | .bad q, L, a, no => L = [] ∧ a = headAt en q ∧ no = 140
  | .ok _ (t :: _), L, a, no => L = [] ∧ a = t.at_ ∧ no = 140
  | .ok L0 [], L, a, no => (64 < L0.length ∧ L = [] ∧ a = 0 ∧ no = 142) ∨ (L0.length ≤ 64 ∧ 16 < depthN L0 ∧ L = [] ∧ a = 0 ∧ no = 141) ∨ (L0.length ≤ 64 ∧ depthN L0 ≤ 16 ∧ L = L0 ∧ a = en ∧ no = 0)
/-- What Parse answers. -/
inductive ParseR (s : ByteArray) : List Nd → Int → Int → Prop
  | lex {a : Nat} {no : Int} (h : lexS s (.bad a no)) (h0 : no ≠ 0) : ParseR s [] a no
  | toks {ts : List Tok} {nx : Nat} {R : PR} {L : List Nd} {a no : Int} (h : lexS s (.ok ts nx)) (h1 : queryR (ts.length + 1) ts R) (h2 : QEnd (s.size : Nat) R L a no) : ParseR s L a no
theorem qend_total (en : Int) (R : PR) : ∃ L a no, QEnd en R L a no := by
  cases R with
  | bad q => exact ⟨_, _, _, rfl, rfl, rfl⟩
  | ok L0 q =>
    cases q with
    | cons t q => exact ⟨_, _, _, rfl, rfl, rfl⟩
    | nil =>
      by_cases h : 64 < L0.length
      · exact ⟨_, _, _, .inl ⟨h, rfl, rfl, rfl⟩⟩
      · by_cases h2 : 16 < depthN L0
        · exact ⟨_, _, _, .inr (.inl ⟨by omega, h2, rfl, rfl, rfl⟩)⟩
        · exact ⟨_, _, _, .inr (.inr ⟨by omega, by omega, rfl, rfl, rfl⟩)⟩
theorem query_total' (ts : List Tok) : ∃ R, queryR (ts.length + 1) ts R := chain_total (chain_total (item_total (ts.length + 1)) (fine_item (ts.length + 1))) (fun _ _ h => fine_part _ h) ts (Nat.lt_succ_self _)
theorem parse_total (s : ByteArray) : ∃ L a no, ParseR s L a no := by
  obtain ⟨R, hR⟩ := lexS_total s
  cases R with
  | bad a e => exact ⟨_, _, _, .lex hR (lexS_no hR (fun v nx h => by cases h))⟩
  | ok ts nx =>
    obtain ⟨R, h1⟩ := query_total' ts
    obtain ⟨L, a, no, h2⟩ := qend_total (s.size : Nat) R
    exact ⟨L, a, no, .toks hR h1 h2⟩
/-- A parser's box, just made. -/
theorem pst_new {W : World} {base : Nat} {A : Option Addr} {n c : Nat} {ps : List TP} {en : Int} {T : TypeId} (h : TRow W base T A n c ps) : PSt (W.alloc (.cells #[.slice A n c, .int .i64 en, .int .i64 0, .int .i64 0] 48)) W.heap.size en 0 0 (ps.map TP.t) := by
  refine ⟨A, n, c, ps, Blk.new W _ _, ?_, rfl⟩
  have h1 : TRead (NB W.heap.size) W A n c ps := ⟨h.len, (RowAt.of_own h.own).mono (fun k hk _ => hk), fun p hp => ⟨(h.els p hp).row.mono (fun k hk _ => hk), (h.els p hp).len⟩⟩
  exact h1.calm ((Chg.refl Nothing W).alloc _)
def ParseAns (L : List Nd) (a no : Int) (w : World) (e : Ending) (w' : World) : Prop := ∃ A n c ps, e = .returned (.tuple #[.slice A n c, .int .i64 a, .int .i64 no]) ∧ NRow (fun _ => True) w' A n c ps ∧ ps.map NP.x = L ∧ Chg Nothing w w'
theorem parse_no {w w' : World} {a no : Int} {e : Ending} (he : e = .returned (.tuple #[.slice none 0 0, .int .i64 a, .int .i64 no])) (hc : Chg Nothing w w') : ParseAns [] a no w e w' := ⟨none, 0, 0, [], he, NRow.nil _ _, rfl, hc⟩
set_option maxHeartbeats 8000000 in
set_option maxRecDepth 100000 in
theorem parse_lex (s : ByteArray) (a : Nat) (no : Int) (h : lexS s (.bad a no)) (h0 : no ≠ 0) (w : World) (hs : s.size ≤ 9223372036854775000) :
    Calls Try.prog 11 #[.string s] w (ParseAns [] a no w) := by
  have hb : (no != 0) = true := by rw [bne_iff_ne]; exact h0
  have hL := hid (lex_any s _ h · hs)
  clear h h0
  go_enter Try.func11, Try.ntmps11
  go_wp2_with fail
  refine (hL.out w).mono ?_
  rintro e w1 ⟨A, n, c, ps, rfl, -, -, -, hc1⟩
  simp only [Rd.at_, Rd.no]
  go_wp2
  refine bodyPost_ret (v := .tuple #[.slice none 0 0, .int .i64 a, .int .i64 no]) (by simp [results, Try.results11, go_sem]) rfl (parse_no rfl hc1)
set_option maxHeartbeats 8000000 in
set_option maxRecDepth 100000 in
theorem parse_toks (s : ByteArray) (ts : List Tok) (nx : Nat) (R : PR) (L : List Nd) (a no : Int) (h : lexS s (.ok ts nx)) (h1 : queryR (ts.length + 1) ts R) (h2 : QEnd (s.size : Nat) R L a no) (w : World) (hs : s.size ≤ 9223372036854775000) :
    Calls Try.prog 11 #[.string s] w (ParseAns L a no w) := by
  have hcount := lexS_count h ts nx rfl
  have hL := hid (lex_any s _ h · hs)
  have h1' := hid h1
  have h2' := hid h2
  clear h h1 h2
  go_enter Try.func11, Try.ntmps11
  go_wp2_with fail
  refine (hL.out w).mono ?_
  rintro e w1 ⟨A, n, c, ps, rfl, hT, hl, -, hc1⟩
  simp only [Rd.at_, Rd.no]
  have hts := hl _ _ rfl
  have hP := hid (hts ▸ pst_new (en := ((s.size : Nat) : Int)) hT)
  have hz1 := hc1.size
  have hc1' := hid hc1
  clear hT hl hc1 hL
  go_wp2_with fail
  refine (parse_query _ _ _ _ h1'.out (by omega) hP.out).mono ?_
  rintro e w2 ⟨hA, hc2⟩
  obtain ⟨A2, m, c2, ps2, a5, no5, ts5, rfl, hr, hS, hm, ht, hcs⟩ := pans_sizes (N := 0) hA (fine_query _ h1'.out)
  have hC2 := hid (hc1'.out.trans (((Chg.refl Nothing w1).alloc (.cells #[.slice A n c, .int .i64 ((s.size : Nat) : Int), .int .i64 0, .int .i64 0] 48)).then hc2 (fun k hk h => by unfold One at h; omega)))
  have hsz : w1.heap.size < w2.heap.size := by have := hc2.size; rw [World.size_alloc] at this; omega
  have hr' := hid hr
  have hcs' := hid hcs
  clear hA hc2 hcs hP hc1' h1' hr
  obtain ⟨B, m5, d5, qs, hB, hTR, rfl⟩ := hS
  have hlen := hTR.len
  have hS' := hid (show PSt w2 w1.heap.size ((s.size : Nat) : Int) a5 no5 (qs.map TP.t) from ⟨B, m5, d5, qs, hB, hTR, rfl⟩)
  have x0 := hB.cell 0 (v := .slice B m5 d5) rfl
  have x2 := hB.cell 2 (v := .int .i64 a5) rfl
  have x3 := hB.cell 3 (v := .int .i64 no5) rfl
  clear hB hTR
  cases qs with
  | nil =>
    obtain rfl : m5 = 0 := by simpa using hlen.symm
    rcases hcs'.out with ⟨rfl, rfl, -, hR⟩ | ⟨rfl, q, hR, rfl⟩
    · have hQ := hid (hR ▸ h2'.out)
      have hD := hid (Depth_any (fun _ => True) A2 m c2 ps2 w2 hr'.out.row (by omega))
      have hLl : (ps2.map NP.x).length = m := by rw [List.length_map, hr'.out.len]
      simp only [QEnd, List.map_nil, hLl] at hQ
      generalize depthN (ps2.map NP.x) = dd at hQ hD
      clear hcs' h2' hS' x2 hR
      rcases hQ.out with ⟨hbig, rfl, rfl, rfl⟩ | ⟨hbig, hdeep, rfl, rfl, rfl⟩ | ⟨hbig, hdeep, rfl, rfl, rfl⟩
      · have hb : (64 : Int) < (m : Int) := by omega
        clear hD hQ
        go_wp2
        refine bodyPost_ret (v := .tuple #[.slice none 0 0, .int .i64 0, .int .i64 142]) (by simp [results, Try.results11, go_sem]) rfl (parse_no rfl hC2.out)
      · have hb : ¬ (64 : Int) < (m : Int) := by omega
        have hd : (16 : Int) < (dd : Int) := by omega
        clear hQ
        go_wp2_with fail
        refine (hD.out).mono ?_
        rintro e w3 ⟨rfl, hc3⟩
        have hC3 := hid (hC2.out.trans hc3)
        clear hc3 hC2
        go_wp2
        refine bodyPost_ret (v := .tuple #[.slice none 0 0, .int .i64 0, .int .i64 141]) (by simp [results, Try.results11, go_sem]) rfl (parse_no rfl hC3.out)
      · have hb : ¬ (64 : Int) < (m : Int) := by omega
        have hd : ¬ (16 : Int) < (dd : Int) := by omega
        clear hQ
        go_wp2_with fail
        refine (hD.out).mono ?_
        rintro e w3 ⟨rfl, hc3⟩
        have hC3 := hid (hC2.out.trans hc3)
        have hN := hid (hr'.out.row.calm hc3)
        clear hc3 hC2
        go_wp2
        refine bodyPost_ret (v := .tuple #[.slice A2 m c2, .int .i64 ((s.size : Nat) : Int), .int .i64 0]) (by simp [results, Try.results11, go_sem]) rfl ⟨A2, m, c2, ps2, rfl, hN.out, rfl, hC3.out⟩
    · obtain ⟨rfl, rfl, rfl⟩ : L = [] ∧ a = headAt ((s.size : Nat) : Int) q ∧ no = 140 := by have := h2'.out; rw [hR] at this; exact this
      obtain ⟨hd, hhd⟩ : ∃ hd, hd = headAt ((s.size : Nat) : Int) q := ⟨_, rfl⟩
      rw [← hhd] at x2 hS'
      replace hhd := hid hhd
      clear hcs' h2' hR hr'
      go_wp2_with fail
      go_quiet (fail)
      go_wp2
      refine bodyPost_ret (v := .tuple #[.slice none 0 0, .int .i64 hd, .int .i64 140]) (by simp [results, Try.results11, go_sem]) rfl (parse_no (by rw [hhd.out]) (hC2.out.drewN _))
  | cons q1 qs =>
    have hm5 : (0 : Int) < (m5 : Int) := by simp at hlen; omega
    rcases hcs'.out with ⟨rfl, rfl, -, hR⟩ | ⟨rfl, q, hR, rfl⟩
    · obtain ⟨rfl, rfl, rfl⟩ : L = [] ∧ a = q1.t.at_ ∧ no = 140 := by have := h2'.out; rw [hR] at this; exact this
      clear hcs' h2' hR hr'
      go_wp2_with fail
      refine (fails_first hS'.out).mono ?_
      rintro e w3 ⟨rfl, ⟨B3, m3, d3, qs3, hB3, -, -⟩, hc3⟩
      have y2 := hB3.cell 2 (v := .int .i64 q1.t.at_) rfl
      have y3 := hB3.cell 3 (v := .int .i64 140) rfl
      have hlt3 := hB3.lt
      have hC3 := hid (hC2.out.then hc3 (fun k hk h => by unfold One at h; omega))
      clear hB3 hc3 x0 x2 x3 hC2 hS'
      go_wp2_with fail
      go_quiet (fail)
      go_wp2
      refine bodyPost_ret (v := .tuple #[.slice none 0 0, .int .i64 q1.t.at_, .int .i64 140]) (by simp [results, Try.results11, go_sem]) rfl (parse_no rfl (hC3.out.drewN _))
    · obtain ⟨rfl, rfl, rfl⟩ : L = [] ∧ a = headAt ((s.size : Nat) : Int) q ∧ no = 140 := by have := h2'.out; rw [hR] at this; exact this
      obtain ⟨hd, hhd⟩ : ∃ hd, hd = headAt ((s.size : Nat) : Int) q := ⟨_, rfl⟩
      rw [← hhd] at x2 hS'
      replace hhd := hid hhd
      clear hcs' h2' hR hr'
      go_wp2_with fail
      refine (fails_again hS'.out).mono ?_
      rintro e w3 ⟨rfl, hc3⟩
      have y2 := (hc3.cells.1 _ _ hsz).trans x2
      have y3 := (hc3.cells.1 _ _ hsz).trans x3
      have hC3 := hid (hC2.out.trans hc3)
      have hlt3 : w1.heap.size < w3.heap.size := Nat.lt_of_lt_of_le hsz hc3.size
      clear hc3 x0 x2 x3 hC2 hS'
      go_wp2_with fail
      go_quiet (fail)
      go_wp2
      refine bodyPost_ret (v := .tuple #[.slice none 0 0, .int .i64 hd, .int .i64 140]) (by simp [results, Try.results11, go_sem]) rfl (parse_no (by rw [hhd.out]) (hC3.out.drewN _))
theorem parse_any (s : ByteArray) (L : List Nd) (a no : Int) (h : ParseR s L a no) (w : World) (hs : s.size ≤ 9223372036854775000) : Calls Try.prog 11 #[.string s] w (ParseAns L a no w) := by
  cases h with
  | lex h h0 => exact parse_lex s _ _ h h0 w hs
  | toks h h1 h2 => exact parse_toks s _ _ _ _ _ _ h h1 h2 w hs
end Go.Proofs.Ytllblpiakijpaaa

/- Layer 14: the program's text, within. -/
namespace Go.Proofs.Ytllblpiakijpaaa
open Go.RowKit
set_option linter.unusedVariables false
theorem printV_get (o : Option ByteArray) : ∃ b, printV o = #[.string (o.getD ByteArray.empty), .bool b] := by cases o; exact ⟨false, rfl⟩; exact ⟨true, rfl⟩
set_option maxHeartbeats 4000000 in
set_option maxRecDepth 100000 in
theorem text_any (F : Nat → Prop) (k n : Int) (A : Option Addr) (l c : Nat) (p : List Cls) (w : World) (H : ClsRow F w A l c p) (hl : p.length = l) :
    Calls Try.prog 62 #[.int .i64 k, .int .i64 n, .slice A l c] w fun e w' => e = .returned (.string ((printS k n p).getD ByteArray.empty)) ∧ Chg Nothing w w' := by
  have hc := hid (tokPrint_any F k 0 n A l c p w H hl)
  obtain ⟨bb, hb⟩ := printV_get (printS k n p)
  rw [hb] at hc
  generalize (printS k n p).getD ByteArray.empty = u at hc ⊢
  clear hb H hl
  go_enter Try.func62, Try.ntmps62
  go_wp2_with fail
  refine (hc.out).mono ?_
  rintro e w1 ⟨rfl, hc1⟩
  go_wp2
  go_ret
  exact ⟨rfl, hc1⟩
theorem text_sgn (k : Nat) (h1 : 1 ≤ k) (h5 : k ≤ 5) (w : World) : Calls Try.prog 62 #[.int .i64 k, .int .i64 0, .slice none 0 0] w fun e w' => e = .returned (.string (sgnS k)) ∧ Chg Nothing w w' := by
  have := text_any (fun _ => True) k 0 none 0 0 [] w (RowAt.none _ _ _) rfl
  rw [sgn_print k h1 h5] at this
  exact this
theorem text_num (k n : Nat) (h : k = 6 ∨ k = 7) (hn : n ≤ 1000000) (w : World) : Calls Try.prog 62 #[.int .i64 k, .int .i64 n, .slice none 0 0] w fun e w' => e = .returned (.string (sgnS k ++ decS n)) ∧ Chg Nothing w w' := by
  have := text_any (fun _ => True) k n none 0 0 [] w (RowAt.none _ _ _) rfl
  rw [num_print k n h hn] at this
  exact this
theorem text_pat {F : Nat → Prop} {A : Option Addr} {l c : Nat} {p : List Cls} {K : Int} (h : rightB p K = true) (w : World) (H : ClsRow F w A l c p) (hl : p.length = l) : Calls Try.prog 62 #[.int .i64 8, .int .i64 0, .slice A l c] w fun e w' => e = .returned (.string (patT p)) ∧ Chg Nothing w w' := by
  have := text_any F 8 0 A l c p w H hl
  rw [pat_print h] at this
  exact this
def KxInv (xs : List Int) (x : Int) (w : World) (iv : Value) (wr : World) : Prop := ∃ k : Nat, k ≤ xs.length ∧ iv = .int .i64 k ∧ wr = w ∧ Hid (x ∉ xs.take k)
theorem kx_not {xs : List Int} {x : Int} {k : Nat} (hk : k < xs.length) (h : x ∉ xs.take k) (hx : xs.getD k 0 ≠ x) : x ∉ xs.take (k + 1) := by
  rw [List.take_succ_eq_append_getElem hk, List.mem_append, List.mem_singleton]
  rintro (h1 | h1)
  · exact h h1
  · exact hx (by rw [h1]; simp [hk])
theorem kx_mem {xs : List Int} {x : Int} {k : Nat} (hk : k < xs.length) (hx : xs.getD k 0 = x) : x ∈ xs := by
  rw [← hx]; simp [hk]
set_option maxHeartbeats 4000000 in
set_option maxRecDepth 100000 in
theorem index_any (F : Nat → Prop) (A : Option Addr) (n c : Nat) (xs : List Int) (x : Int) (w : World) (H : IntsAt F w A n c xs) :
    Calls Try.prog 97 #[.slice A n c, .int .i64 x] w fun e w' => ∃ r : Int, e = .returned (.int .i64 r) ∧ (0 ≤ r ↔ x ∈ xs) ∧ w' = w := by
  have HH := hid H
  have hln : xs.length = n := H.2.2.2.1
  have hle := H.2.1
  have hmx := H.2.2.1
  clear H
  go_enter Try.func97, Try.ntmps97
  go_wp2
  go_loopw [8] (fun iv wr => KxInv xs x w iv wr) (fun iv _ => n - (intOf iv).toNat)
  case atStart => exact ⟨0, Nat.zero_le _, rfl, rfl, hid (by simp)⟩
  case round =>
    obtain ⟨k, hk, rfl, rfl, hst⟩ := hrel
    rcases Nat.lt_or_ge k n with hkn | hkn
    · obtain ⟨g, o, rfl, -, hgl, c0⟩ := HH.out.at_ hkn
      have hk0 : (0 : Int) ≤ (k : Int) := by omega
      have hkn' : (k : Int) < (n : Int) := by omega
      have hmem := hid (fun h => kx_mem (x := x) (k := k) (xs := xs) (by omega) h)
      have hnot := hid (fun h => kx_not (x := x) (k := k) (xs := xs) (by omega) hst.out h)
      generalize xs.getD k 0 = y at c0 hmem hnot
      by_cases hy : y = x
      · subst hy
        have hfin := hid (hmem.out rfl)
        go_wp2
        go_ret
        exact ⟨k, rfl, by constructor; intro _; exact hfin.out; intro _; omega, rfl⟩
      · have e1 : (x == y) = false := beq_eq_false_iff_ne.2 (fun h => hy h.symm)
        have hn := hid (hnot.out hy)
        replace hy := hid hy
        go_wp2
        go_roundw
        case rel => exact ⟨k + 1, by omega, by go_num, rfl, hn⟩
        case measure => simp [intOf]; omega
    · have hd : decide ((k : Int) < (n : Int)) = false := decide_eq_false (by omega)
      have hfin := hid (show x ∉ xs from by have := hst.out; rwa [List.take_of_length_le (by omega)] at this)
      go_wp2
      go_ret
      exact ⟨-1, rfl, by constructor; intro h; omega; intro h; exact absurd h hfin.out, rfl⟩
set_option maxHeartbeats 4000000 in
set_option maxRecDepth 100000 in
theorem contains_any (F : Nat → Prop) (A : Option Addr) (n c : Nat) (xs : List Int) (x : Int) (w : World) (H : IntsAt F w A n c xs) :
    Calls Try.prog 82 #[.slice A n c, .int .i64 x] w fun e w' => e = .returned (.bool (decide (x ∈ xs))) ∧ w' = w := by
  have hc := hid (index_any F A n c xs x w H)
  clear H
  by_cases hx : x ∈ xs
  · rw [decide_eq_true hx]
    have hxh := hid hx
    clear hx
    go_enter Try.func82, Try.ntmps82
    go_wp2_with fail
    refine (hc.out).mono ?_
    rintro e w1 ⟨r, rfl, hr, rfl⟩
    have h0 : (0 : Int) ≤ r := hr.2 hxh.out
    clear hr
    go_wp2
    go_ret
    exact ⟨rfl, rfl⟩
  · rw [decide_eq_false hx]
    have hxh := hid hx
    clear hx
    go_enter Try.func82, Try.ntmps82
    go_wp2_with fail
    refine (hc.out).mono ?_
    rintro e w1 ⟨r, rfl, hr, rfl⟩
    have h0 : decide ((0 : Int) ≤ r) = false := decide_eq_false (fun h => hxh.out (hr.1 h))
    clear hr
    go_wp2
    go_ret
    exact ⟨rfl, rfl⟩
end Go.Proofs.Ytllblpiakijpaaa

/- Layer 14: the program's within. -/
namespace Go.Proofs.Ytllblpiakijpaaa
open Go.RowKit
set_option linter.unusedVariables false
set_option maxHeartbeats 4000000 in
set_option maxRecDepth 100000 in
theorem within_any {F G : Nat → Prop} (t : GT) (A K : Option Addr) (n c m d : Nat) (ps : List NP) (ks : List Int) (w : World) (H : NRow F w A n c ps) (hps : ps.map NP.x = t.flat) (HK : IntsAt G w K m d ks)
    (hw : ∀ w', Chg Nothing w w' → Calls Try.prog 44 #[.slice A n c] w' fun e w'' => e = .returned (.string t.text) ∧ Chg Nothing w' w'') (hsz : t.text.size ≤ 9000000000000000000) :
    Calls Try.prog 63 #[.slice A n c, .slice K m d] w fun e w' => e = .returned (.string (br (decide (t.root.kind ∈ ks)) t.text)) ∧ Chg Nothing w w' := by
  obtain ⟨r, hr⟩ := t.flat_head
  have hn0 : 0 < n := by
    have := congrArg List.length hps
    rw [List.length_map, H.len] at this
    have := t.flat_pos
    omega
  have hn0' : (0 : Int) < (n : Int) := by omega
  have hle := H.row.le
  have hmx := H.row.max
  have hroot : (ps.getD 0 np0).x = t.root := by
    cases ps with
    | nil => have := H.len; simp at this; omega
    | cons p ps => rw [hr, List.map_cons] at hps; injection hps with h1 _
  obtain ⟨g, o, p, rfl, -, hgl, hp, -, -, c0, -, -, -⟩ := H.four hn0
  rw [Nat.zero_mul, Nat.add_zero] at c0
  rw [hp, hroot] at c0
  have hKs := hid (fun (w' : World) (hc : Chg Nothing w w') => HK.chg hc (fun _ _ _ h => h))
  have hws := hid (hw _ (Chg.refl _ _))
  generalize t.text = u at hws hsz ⊢
  generalize t.root.kind = kd at c0 ⊢
  clear hw HK H hps hr hroot hp
  have s1 : (sgnS 1).size = 1 := by decide
  have s2 : (sgnS 2).size = 1 := by decide
  by_cases hk : kd ∈ ks
  · have hb := hid (decide_eq_true hk)
    rw [hb.out]
    clear hk
    go_enter Try.func63, Try.ntmps63
    go_wp2_with fail
    refine (hws.out).mono ?_
    rintro e w1 ⟨rfl, hc1⟩
    have d0 := (hc1.cells.1 _ _ hgl).trans c0
    have hgl1 : g < w1.heap.size := Nat.lt_of_lt_of_le hgl hc1.size
    have hC1 := hid hc1
    clear hc1 c0 hgl
    go_wp2_with fail
    refine (contains_any G K m d ks kd _ (hKs.out _ hC1.out)).mono ?_
    rintro e w2 ⟨rfl, rfl⟩
    rw [hb.out]
    go_wp2_with fail
    refine (text_sgn 1 (by decide) (by decide) _).mono ?_
    rintro e w3 ⟨rfl, hc3⟩
    have hC3 := hid (hC1.out.trans hc3)
    clear hc3 d0 hgl1
    go_wp2_with fail
    refine (text_sgn 2 (by decide) (by decide) _).mono ?_
    rintro e w4 ⟨rfl, hc4⟩
    have hC4 := hid (hC3.out.trans hc4)
    clear hc4
    go_wp2
    go_ret
    exact ⟨rfl, hC4.out⟩
  · have hb := hid (decide_eq_false hk)
    rw [hb.out]
    clear hk
    go_enter Try.func63, Try.ntmps63
    go_wp2_with fail
    refine (hws.out).mono ?_
    rintro e w1 ⟨rfl, hc1⟩
    have d0 := (hc1.cells.1 _ _ hgl).trans c0
    have hgl1 : g < w1.heap.size := Nat.lt_of_lt_of_le hgl hc1.size
    have hC1 := hid hc1
    clear hc1 c0 hgl
    go_wp2_with fail
    refine (contains_any G K m d ks kd _ (hKs.out _ hC1.out)).mono ?_
    rintro e w2 ⟨rfl, rfl⟩
    rw [hb.out]
    go_wp2
    go_ret
    exact ⟨rfl, hC1.out⟩
end Go.Proofs.Ytllblpiakijpaaa

/- Layer 14: the program's written. -/
namespace Go.Proofs.Ytllblpiakijpaaa
open Go.RowKit
set_option linter.unusedVariables false
attribute [local go_sem ↓] Go.wp_at_zero Go.wp_at_succ
/-- A row of nodes that is a tree is written. -/
def WrCon (t : GT) : Prop := ∀ (F : Nat → Prop) (A : Option Addr) (n c : Nat) (ps : List NP) (w : World), NRow F w A n c ps → ps.map NP.x = t.flat → n ≤ 1000000 → Calls Try.prog 44 #[.slice A n c] w fun e w' => e = .returned (.string t.text) ∧ Chg Nothing w w'
set_option maxHeartbeats 8000000 in
set_option maxRecDepth 100000 in
theorem written_leaf (x : Nd) (hr : (GT.leaf x).right) : WrCon (.leaf x) := by
  intro F A n c ps w H hps _
  have hx := nodeB_leaf (x := x) hr.root hr.1
  obtain ⟨p, rfl⟩ : ∃ p, ps = [p] := by
    match ps, hps with
    | [p], _ => exact ⟨p, rfl⟩
  obtain rfl : p.x = x := by simpa [GT.flat] using hps
  have hn1 : n = 1 := H.len.symm
  subst hn1
  obtain ⟨g, o, p', rfl, -, hgl, hp, hm, hR, c0, c1, c2, c3⟩ := H.four (Nat.lt_succ_self 0)
  obtain rfl : p' = p := by simpa using hm
  rw [Nat.zero_mul, Nat.add_zero] at c0 c1 c2 c3
  have hle := H.row.le
  have hmx := H.row.max
  have hrun := run_from elemNd sizeNd (some ⟨g, o, none⟩) 1 c 1 1 rfl (by omega)
  have hk : p'.x.kind = 1 := hr.1
  rw [hk] at c0
  have hrow := hid hR.row
  have hlen := hid hR.len
  clear H hps hm hR hp hr
  have hxx := hid hx
  clear hx hk
  have hBx := hid (Blk.drew (Blk.new w #[.int .i64 1, .int .i64 p'.x.n, .slice p'.A p'.l p'.c, .int .i64 p'.x.K] 40))
  have hC0 := hid (((Chg.refl Nothing w).alloc (.cells #[.int .i64 1, .int .i64 p'.x.n, .slice p'.A p'.l p'.c, .int .i64 p'.x.K] 40)).drew)
  have hK64 := hxx.out.2.2
  have htxt := hid (show (GT.leaf p'.x).text = leafT p'.x from rfl)
  rw [htxt.out]
  have hpt : (patT p'.x.p).size ≤ 2000000 := printS_size (pat_print hxx.out.2.1)
  by_cases hK : 0 < p'.x.K
  · have hE := hid (show leafT p'.x = patT p'.x.p ++ (sgnS 7 ++ decS p'.x.K.toNat) from if_pos hK)
    rw [hE.out]
    obtain ⟨kk, hkk⟩ : ∃ kk : Nat, p'.x.K = kk := ⟨p'.x.K.toNat, by omega⟩
    have hsz : (sgnS 7 ++ decS p'.x.K.toNat).size ≤ 2000000 := printS_size (num_print 7 kk (.inr rfl) (by omega)) |> (by rw [hkk, Int.toNat_natCast]; exact ·)
    have hcal := hid (fun w => text_num 7 kk (.inr rfl) (by omega) w)
    rw [hkk, Int.toNat_natCast] at hsz
    have hpat := hid (fun w h => text_pat (F := F) (A := p'.A) (l := p'.l) (c := p'.c) hxx.out.2.1 w h hlen.out)
    simp only [hkk, Int.toNat_natCast] at hK hBx hC0 c3 ⊢
    generalize sgnS 7 ++ decS kk = u7 at hcal hsz ⊢
    generalize patT p'.x.p = u8 at hpat hpt ⊢
    go_enter Try.func44, Try.ntmps44
    go_wp2_with fail
    go_region
    go_wp2_with fail
    refine (hpat.out _ (hrow.out.chg hC0.out (fun _ _ _ h => h))).mono ?_
    rintro e w1 ⟨rfl, hc1⟩
    have hB1 := hBx.out.chg hc1 id
    have y3 := hB1.cell 3 (v := .int .i64 kk) rfl
    have hlt := hB1.lt
    have hC1 := hid (hC0.out.trans hc1)
    clear hc1 hBx hC0 hB1 c0 c1 c2 c3 hrun
    go_wp2_with fail
    refine (hcal.out _).mono ?_
    rintro e w2 ⟨rfl, hc2⟩
    have hC2 := hid (hC1.out.trans hc2)
    clear hc2 y3 hlt
    go_wp2
    go_ret
    exact ⟨rfl, hC2.out⟩
  · have hE := hid (show leafT p'.x = patT p'.x.p from if_neg hK)
    rw [hE.out]
    obtain hkk : p'.x.K = 0 := by omega
    have hpat := hid (fun w h => text_pat (F := F) (A := p'.A) (l := p'.l) (c := p'.c) hxx.out.2.1 w h hlen.out)
    simp only [hkk] at hBx hC0 c3
    generalize patT p'.x.p = u8 at hpat hpt ⊢
    go_enter Try.func44, Try.ntmps44
    go_wp2_with fail
    go_region
    go_wp2_with fail
    refine (hpat.out _ (hrow.out.chg hC0.out (fun _ _ _ h => h))).mono ?_
    rintro e w1 ⟨rfl, hc1⟩
    have hB1 := hBx.out.chg hc1 id
    have y3 := hB1.cell 3 (v := .int .i64 0) rfl
    have hlt := hB1.lt
    have hC1 := hid (hC0.out.trans hc1)
    clear hc1 hBx hC0 hB1 c0 c1 c2 c3 hrun
    go_wp2
    go_ret
    exact ⟨rfl, hC1.out⟩
theorem sgnS_size (kd : Int) : (sgnS kd).size ≤ 7 := by unfold sgnS; simp; have : signSet.size = 7 := rfl; omega
theorem br_size (b : Bool) (u : ByteArray) : (br b u).size ≤ u.size + 14 := by
  unfold br
  have h1 := sgnS_size 1
  have h2 := sgnS_size 2
  split
  · rw [ByteArray.size_append, ByteArray.size_append]; omega
  · omega
theorem text_size (t : GT) : t.right → t.text.size ≤ 5000000 * t.flat.length := by
  induction t with
  | leaf x =>
    intro h
    have hx := nodeB_leaf (x := x) h.root h.1
    have h1 := printS_size (pat_print hx.2.1)
    show (leafT x).size ≤ _
    unfold leafT
    simp only [GT.flat, List.length_singleton]
    split
    · have h2 := decS_size x.K.toNat
      have h3 := sgnS_size 7
      rw [ByteArray.size_append, ByteArray.size_append]
      omega
    · omega
  | one x a ih =>
    intro h
    have h1 := ih h.one
    have h2 := br_size (isBin a.root) a.text
    have h3 : (oneT x).size ≤ 2000000 := by
      unfold oneT
      have h5 := sgnS_size 5
      have h6 := sgnS_size 6
      split
      · omega
      · have := decS_size x.n.toNat
        have hn := h.root.2.2.1
        have hn0 := h.root.2.1
        simp only [GT.root] at hn hn0
        rw [ByteArray.size_append]
        omega
    show (oneT x ++ br (isBin a.root) a.text).size ≤ _
    simp only [GT.flat, List.length_cons]
    rw [ByteArray.size_append]
    omega
  | two x a b iha ihb =>
    intro h
    have h1 := iha h.left
    have h2 := ihb h.right
    have h3 := br_size (isOr a.root) a.text
    have h4 := br_size (isBin b.root) b.text
    have h5 := br_size (isOr b.root) b.text
    have h6 := sgnS_size 3
    have h7 := sgnS_size 4
    have h8 : blankS.size = 1 := rfl
    simp only [GT.text, GT.flat, List.length_cons, List.length_append]
    split
    · simp only [ByteArray.size_append]; omega
    · simp only [ByteArray.size_append]; omega
theorem isBin_ks (x : Nd) : isBin x = decide (x.kind ∈ [(2 : Int), 3]) := by unfold isBin; simp
theorem isOr_ks (x : Nd) : isOr x = decide (x.kind ∈ [(3 : Int)]) := by unfold isOr; simp
/-- The first node of a row, and the others. -/
theorem NRow.parts {F : Nat → Prop} {w : World} {A : Option Addr} {n c : Nat} {ps : List NP} {x : Nd} {L : List Nd} (H : NRow F w A n c ps) (hps : ps.map NP.x = x :: L) :
    ∃ g o p qs, A = some ⟨g, o, none⟩ ∧ g < w.heap.size ∧ ps = p :: qs ∧ p.x = x ∧ qs.map NP.x = L ∧ n = qs.length + 1 ∧ w.cell? ⟨g, o, none⟩ = some (.int .i64 x.kind) ∧ w.cell? ⟨g, o + 1, none⟩ = some (.int .i64 x.n) ∧ w.cell? ⟨g, o + 2, none⟩ = some (.slice p.A p.l p.c) ∧ w.cell? ⟨g, o + 3, none⟩ = some (.int .i64 x.K) ∧ NRow F w (pieceA A 1 c 4) (n - 1) (c - 1) qs := by
  cases ps with
  | nil => cases hps
  | cons p qs =>
    injection hps with h1 h2
    have hl := H.len
    rw [List.length_cons] at hl
    obtain ⟨g, o, p', rfl, -, hgl, hp, hm, hR, c0, c1, c2, c3⟩ := H.four (k := 0) (by omega)
    obtain rfl : p' = p := by simpa using hp
    rw [Nat.zero_mul, Nat.add_zero] at c0 c1 c2 c3
    rw [h1] at c0 c1 c3
    have hc : NRow F w (some ⟨g, o, none⟩) n c ([p'] ++ qs ++ []) := by simpa using H
    have := hc.cut
    refine ⟨g, o, p', qs, rfl, hgl, rfl, h1, h2, hl.symm, c0, c1, c2, c3, ?_⟩
    rw [show n - 1 = qs.length from by omega]
    exact this
end Go.Proofs.Ytllblpiakijpaaa

/- Layer 14: the program's written, at a node of one tree. -/
namespace Go.Proofs.Ytllblpiakijpaaa
open Go.RowKit
set_option linter.unusedVariables false
attribute [local go_sem ↓] Go.wp_at_zero Go.wp_at_succ
set_option maxHeartbeats 8000000 in
set_option maxRecDepth 100000 in
theorem written_one (x : Nd) (a : GT) (hr : (GT.one x a).right) (ih : WrCon a) : WrCon (.one x a) := by
  intro F A n c ps w H hps hn
  have hle := H.row.le
  have hmx := H.row.max
  obtain ⟨g, o, p, qs, rfl, hgl, rfl, hpx, hqs, hnq, c0, c1, c2, c3, hT⟩ := H.parts hps
  have hrun := run_from elemNd sizeNd (some ⟨g, o, none⟩) n c 1 1 rfl (by omega)
  have hbx := hid (br_size (isBin a.root) a.text)
  have hasz := text_size a hr.one
  have hal : a.flat.length = n - 1 := by rw [← hqs, List.length_map]; omega
  have hsz : a.text.size ≤ 9000000000000000000 := by rw [hal] at hasz; omega
  have hn0 : (0 : Int) < (n : Int) := by omega
  have htx := hid (show (GT.one x a).text = oneT x ++ br (isBin a.root) a.text from rfl)
  have hTh := hid hT
  rw [htx.out]
  have hW := hid (fun (w' : World) (hc : Chg Nothing w w') (K : Option Addr) (m d : Nat) (hK : IntsAt (fun _ => True) w' K m d [2, 3]) => within_any a (pieceA (some ⟨g, o, none⟩) 1 c 4) K (n - 1) (c - 1) m d qs [2, 3] w' (hTh.out.calm hc) hqs hK (fun w2 hc2 => ih _ _ _ _ _ w2 ((hTh.out.calm hc).calm hc2) hqs (by omega)) hsz)
  rw [isBin_ks] at htx hbx ⊢
  have hbs : (br (decide (a.root.kind ∈ [(2 : Int), 3])) a.text).size ≤ 9000000000000000014 := Nat.le_trans hbx.out (by omega)
  generalize br (decide (a.root.kind ∈ [(2 : Int), 3])) a.text = u at hW hbs ⊢
  have hone := hr.1.1
  clear hTh hT hbx hasz htx hal hsz hnq hqs hpx hps H ih
  have hnn := hr.root.2.2.1
  have hn00 := hr.root.2.1
  simp only [GT.root] at hnn hn00
  clear hr
  rcases hone with hk | hk
  · have hE := hid (show oneT x = sgnS 5 from if_pos hk)
    rw [hE.out]
    rw [hk] at c0
    have hs5 : (sgnS 5).size ≤ 7 := sgnS_size 5
    clear hE
    have hC0 := hid (((Chg.refl Nothing w).alloc (.cells #[.int .i64 4, .int .i64 x.n, .slice p.A p.l p.c, .int .i64 x.K] 40)).drew)
    have h5 : ∀ w, Calls Try.prog 62 #[.int .i64 5, .int .i64 0, .slice none 0 0] w fun e w' => e = .returned (.string (sgnS 5)) ∧ Chg Nothing w w' := fun w => text_sgn 5 (by decide) (by decide) w
    generalize sgnS 5 = u5 at h5 hs5 ⊢
    have h5' := hid h5
    clear h5
    go_enter Try.func44, Try.ntmps44
    go_wp2_with fail
    go_region
    go_wp2_with fail
    refine (h5'.out _).mono ?_
    rintro e w1 ⟨rfl, hc1⟩
    have hC1 := hid (hC0.out.trans hc1)
    clear hc1 hC0 c0 c1 c2 c3 hrun
    go_wp2_with fail
    have hC2 := hid (hC1.out.alloc (.cells #[.int .i64 2, .int .i64 3] 3))
    refine (hW.out _ hC2.out _ _ _ (ElsAt.new w1 _ _ [2, 3] 2 rfl rfl (by decide) trivial)).mono ?_
    rintro e w2 ⟨rfl, hc2⟩
    have hC3 := hid (hC2.out.trans hc2)
    clear hc2
    go_wp2
    go_ret
    exact ⟨rfl, hC3.out⟩
  · have hE := hid (show oneT x = sgnS 6 ++ decS x.n.toNat from if_neg (by omega))
    rw [hE.out]
    rw [hk] at c0
    obtain ⟨nn, hnn'⟩ : ∃ nn : Nat, x.n = nn := ⟨x.n.toNat, by omega⟩
    rw [hnn'] at c1 hnn ⊢
    rw [Int.toNat_natCast]
    have hs6 : (sgnS 6 ++ decS nn).size ≤ 2000000 := printS_size (num_print 6 nn (.inl rfl) (by omega))
    have hBx := hid (Blk.drew (Blk.new w #[.int .i64 5, .int .i64 nn, .slice p.A p.l p.c, .int .i64 x.K] 40))
    have hC0 := hid (((Chg.refl Nothing w).alloc (.cells #[.int .i64 5, .int .i64 nn, .slice p.A p.l p.c, .int .i64 x.K] 40)).drew)
    have h6 : ∀ w, Calls Try.prog 62 #[.int .i64 6, .int .i64 nn, .slice none 0 0] w fun e w' => e = .returned (.string (sgnS 6 ++ decS nn)) ∧ Chg Nothing w w' := fun w => text_num 6 nn (.inl rfl) (by omega) w
    generalize sgnS 6 ++ decS nn = u6 at h6 hs6 ⊢
    have h6' := hid h6
    clear h6 hE
    go_enter Try.func44, Try.ntmps44
    go_wp2_with fail
    go_region
    go_wp2_with fail
    refine (h6'.out _).mono ?_
    rintro e w1 ⟨rfl, hc1⟩
    have hC1 := hid (hC0.out.trans hc1)
    clear hc1 hC0 c0 c1 c2 c3 hrun
    go_wp2_with fail
    have hC2 := hid (hC1.out.alloc (.cells #[.int .i64 2, .int .i64 3] 3))
    refine (hW.out _ hC2.out _ _ _ (ElsAt.new w1 _ _ [2, 3] 2 rfl rfl (by decide) trivial)).mono ?_
    rintro e w2 ⟨rfl, hc2⟩
    have hC3 := hid (hC2.out.trans hc2)
    clear hc2
    go_wp2
    go_ret
    exact ⟨rfl, hC3.out⟩
end Go.Proofs.Ytllblpiakijpaaa

/- Layer 14: the program's written, at a node of two trees. -/
namespace Go.Proofs.Ytllblpiakijpaaa
open Go.RowKit
set_option linter.unusedVariables false
attribute [local go_sem ↓] Go.wp_at_zero Go.wp_at_succ
theorem Blk.new_at {w : World} {g : Nat} {cs : Array Value} {T : TypeId} (h : g = w.heap.size) : Blk (w.alloc (.cells cs T)) g cs T := h ▸ Blk.new w cs T
theorem ints_of_blk {w : World} {g n : Nat} {cs : Array Value} {T : TypeId} {xs : List Int} (h : Blk w g cs T) (hc : cs = (xs.map (Value.int .i64)).toArray) (hn : xs.length = n) (hm : n ≤ 9223372036854775807) : IntsAt (fun _ => True) w (some ⟨g, 0, none⟩) n n xs := by
  subst hc hn
  refine ⟨(fun h => by cases h), Nat.le_refl _, hm, rfl, fun hn => ⟨g, 0, rfl, trivial, h.lt, fun j hj => ?_⟩⟩
  rw [Nat.zero_add]
  exact h.cell j (by simp [hj])
theorem ints_3 {w : World} {g : Nat} (h : Blk w g #[.int .i64 3] 3) : IntsAt (fun _ => True) w (some ⟨g, 0, none⟩) 1 1 [3] := ints_of_blk h rfl rfl (by decide)
theorem ints_23 {w : World} {g : Nat} (h : Blk w g #[.int .i64 2, .int .i64 3] 3) : IntsAt (fun _ => True) w (some ⟨g, 0, none⟩) 2 2 [2, 3] := ints_of_blk h rfl rfl (by decide)
theorem NRow.pre {F : Nat → Prop} {w : World} {A : Option Addr} {n c : Nat} {ps : List NP} {L M : List Nd} (H : NRow F w A n c ps) (hps : ps.map NP.x = L ++ M) :
    ∃ p1 p2, ps = p1 ++ p2 ∧ p1.map NP.x = L ∧ p2.map NP.x = M ∧ NRow F w (pieceA A 0 c 4) L.length c p1 ∧ NRow F w (pieceA A L.length c 4) (n - L.length) (c - L.length) p2 ∧ L.length ≤ n := by
  obtain ⟨p1, p2, rfl, h1, h2⟩ := List.map_eq_append_iff.1 hps
  have hl := H.len
  rw [List.length_append] at hl
  have hl1 : p1.length = L.length := by rw [← h1, List.length_map]
  have a := (show NRow F w A n c ([] ++ p1 ++ p2) from by simpa using H).cut
  have b := (show NRow F w A n c (p1 ++ p2 ++ []) from by simpa using H).cut
  rw [hl1] at a b
  rw [show p2.length = n - L.length from by omega] at b
  exact ⟨p1, p2, rfl, h1, h2, a, b, by omega⟩
set_option maxHeartbeats 16000000 in
set_option maxRecDepth 100000 in
theorem written_two (x : Nd) (a b : GT) (hr : (GT.two x a b).right) (iha : WrCon a) (ihb : WrCon b) : WrCon (.two x a b) := by
  intro F A n c ps w H hps hn
  have hle := H.row.le
  have hmx := H.row.max
  obtain ⟨g, o, p, qs, rfl, hgl, rfl, hpx, hqs, hnq, c0, c1, c2, c3, hT⟩ := H.parts hps
  have hrun := run_from elemNd sizeNd (some ⟨g, o, none⟩) n c 1 1 rfl (by omega)
  obtain ⟨p1, p2, rfl, hq1, hq2, hN1, hN2, hk1⟩ := hT.pre hqs
  have hT' := hid hT
  generalize hP : pieceA (some ⟨g, o, none⟩) 1 c 4 = P at hrun hN1 hN2 hT'
  have hbb1 := br_size (isBin b.root) b.text
  have hbb2 := br_size (isOr b.root) b.text
  have hba := br_size (isOr a.root) a.text
  have hasz := text_size a hr.left
  have hbsz := text_size b hr.right
  have hal : a.flat.length ≤ n := by omega
  have hbl : b.flat.length ≤ n := by rw [← hq2, List.length_map]; rw [List.length_append] at hnq; omega
  have hsa : a.text.size ≤ 5000000000000 := by omega
  have hsb : b.text.size ≤ 5000000000000 := by omega
  have hsize := hid (fun (w' : World) (hc : Chg Nothing w w') => size_any F P (n - 1) (c - 1) (p1 ++ p2) w' (hT'.out.calm hc) (by omega))
  rw [show (p1 ++ p2).map NP.x = a.flat ++ b.flat from by rw [List.map_append, hq1, hq2], sizeN_tree a b.flat hr.1.2.1] at hsize
  have hWa := hid (fun (ks : List Int) (w' : World) (hc : Chg Nothing w w') (K : Option Addr) (m d : Nat) (hK : IntsAt (fun _ => True) w' K m d ks) => within_any a (pieceA P 0 (c - 1) 4) K a.flat.length (c - 1) m d p1 ks w' (hN1.calm hc) hq1 hK (fun w2 hc2 => iha _ _ _ _ _ w2 ((hN1.calm hc).calm hc2) hq1 (by omega)) (by omega))
  have hWb := hid (fun (ks : List Int) (w' : World) (hc : Chg Nothing w w') (K : Option Addr) (m d : Nat) (hK : IntsAt (fun _ => True) w' K m d ks) => within_any b (pieceA P a.flat.length (c - 1) 4) K (n - 1 - a.flat.length) (c - 1 - a.flat.length) m d p2 ks w' (hN2.calm hc) hq2 hK (fun w2 hc2 => ihb _ _ _ _ _ w2 ((hN2.calm hc).calm hc2) hq2 (by omega)) (by omega))
  have hk2 : a.flat.length ≤ c - 1 := by omega
  have hrun1 := run_upto elemNd sizeNd P (n - 1) (c - 1) (a.flat.length : Nat) a.flat.length rfl hk2
  have hrun2 := run_from elemNd sizeNd P (n - 1) (c - 1) (a.flat.length : Nat) a.flat.length rfl hk1
  have hn0 : (0 : Int) < (n : Int) := by omega
  have htx := hid (show (GT.two x a b).text = if x.kind = 2 then br (isOr a.root) a.text ++ blankS ++ sgnS 3 ++ blankS ++ br (isBin b.root) b.text else a.text ++ blankS ++ sgnS 4 ++ blankS ++ br (isOr b.root) b.text from rfl)
  rw [htx.out]
  rw [isBin_ks] at hbb1 ⊢
  rw [isOr_ks, isOr_ks] at htx ⊢
  rw [isOr_ks] at hbb2 hba
  have hkk := hr.1.1
  have hPh := hid hP
  clear htx hP hN1 hN2 hT hT' hqs hpx hps H iha ihb hr hq1 hq2 hnq hal hbl hasz hbsz
  generalize a.flat.length = la at hk1 hk2 hrun1 hrun2 hsize hWa hWb
  rcases hkk with hk | hk
  · have hW1 := hid (hWa.out [3])
    have hW2 := hid (hWb.out [2, 3])
    rw [if_pos hk]
    rw [hk] at c0
    have hz1 : (br (decide (a.root.kind ∈ [(3 : Int)])) a.text).size ≤ 5000000000014 := by omega
    have hz2 : (br (decide (b.root.kind ∈ [(2 : Int), 3])) b.text).size ≤ 5000000000014 := by omega
    have hs3 : (sgnS 3).size ≤ 7 := sgnS_size 3
    have hsg : Hid (∀ w, Calls Try.prog 62 #[.int .i64 3, .int .i64 0, .slice none 0 0] w fun e w' => e = .returned (.string (sgnS 3)) ∧ Chg Nothing w w') := hid (fun w => text_sgn 3 (by decide) (by decide) w)
    clear hWa hWb hbb1 hbb2 hba hsa hsb hk
    generalize br (decide (a.root.kind ∈ [(3 : Int)])) a.text = u1 at hz1 hW1 ⊢
    generalize br (decide (b.root.kind ∈ [(2 : Int), 3])) b.text = u2 at hz2 hW2 ⊢
    generalize sgnS 3 = u3 at hs3 hsg ⊢
    have hC0 := hid (((Chg.refl Nothing w).alloc (.cells #[.int .i64 2, .int .i64 x.n, .slice p.A p.l p.c, .int .i64 x.K] 40)).drew)
    have e1 : ¬ (9223372036854775807 < u1.size + 1) := by omega
    have e2 : ¬ (9223372036854775807 < u1.size + 1 + u3.size) := by omega
    have e3 : ¬ (9223372036854775807 < u1.size + 1 + u3.size + 1) := by omega
    have e4 : ¬ (9223372036854775807 < u1.size + 1 + u3.size + 1 + u2.size) := by omega
    clear hz1 hz2 hs3
    go_enter Try.func44, Try.ntmps44
    go_wp2_with fail
    go_region
    go_wp2_with fail
    refine (hsize.out _ hC0.out).mono ?_
    rintro e w1 ⟨rfl, hc1⟩
    have hC1 := hid (hC0.out.trans hc1)
    clear hc1 hC0 c0 c1 c2 c3 hrun hsize
    have hC0 := hC1
    clear hC1
    go_wp2_with fail
    go_region_held3 (fun w' => True) (trivial)
      (first
      | (go_at_call 63; with_reducible refine (hW1.out _ ?hc _ _ _ (ints_3 ?hk)).mono ?_; (case hc => (repeat (first | with_reducible exact hC0.out | with_reducible apply Chg.drew | with_reducible apply Chg.alloc | with_reducible refine Chg.trans ?_ hcT | with_reducible refine Chg.trans ?_ hcA | with_reducible refine Chg.trans ?_ hcB))); (case hk => (repeat (first | ((with_reducible refine Blk.new_at ?_); first | (with_reducible rfl) | (simp only [World.size_alloc]; done) | (simp only [World.size_alloc, World.drew]; done)) | with_reducible apply Blk.alloc | with_reducible apply Blk.drew | with_reducible refine Blk.chg ?_ hcT id | with_reducible refine Blk.chg ?_ hcA id | with_reducible refine Blk.chg ?_ hcB id))); rintro e wA ⟨rfl, hcA⟩)
      | (go_at_call 63; with_reducible refine (hW2.out _ ?hc _ _ _ (ints_23 ?hk)).mono ?_; (case hc => (repeat (first | with_reducible exact hC0.out | with_reducible apply Chg.drew | with_reducible apply Chg.alloc | with_reducible refine Chg.trans ?_ hcT | with_reducible refine Chg.trans ?_ hcA | with_reducible refine Chg.trans ?_ hcB))); (case hk => (repeat (first | ((with_reducible refine Blk.new_at ?_); first | (with_reducible rfl) | (simp only [World.size_alloc]; done) | (simp only [World.size_alloc, World.drew]; done)) | with_reducible apply Blk.alloc | with_reducible apply Blk.drew | with_reducible refine Blk.chg ?_ hcT id | with_reducible refine Blk.chg ?_ hcA id | with_reducible refine Blk.chg ?_ hcB id))); rintro e wB ⟨rfl, hcB⟩)
      | (go_at_call 62; with_reducible refine (hsg.out _).mono ?_; rintro e wT ⟨rfl, hcT⟩))
    all_goals
      go_wp2
      go_ret
      refine ⟨rfl, ?_⟩
      (repeat (first | with_reducible exact hC0.out | with_reducible apply Chg.drew | with_reducible apply Chg.alloc | with_reducible refine Chg.trans ?_ hcT | with_reducible refine Chg.trans ?_ hcA | with_reducible refine Chg.trans ?_ hcB))
  · have hW1 : Hid (∀ w' : World, Chg Nothing w w' → Calls Try.prog 63 #[.slice (pieceA P 0 (c - 1) 4) la (c - 1), .slice none 0 0] w' fun e w'' => e = .returned (.string a.text) ∧ Chg Nothing w' w'') := hid (fun w' hc => by have := hWa.out [] w' hc none 0 0 (ElsAt.nil _ _); simpa [br] using this)
    have hW2 := hid (hWb.out [3])
    rw [if_neg (by omega)]
    rw [hk] at c0
    have hz1 : (a.text).size ≤ 5000000000014 := by omega
    have hz2 : (br (decide (b.root.kind ∈ [(3 : Int)])) b.text).size ≤ 5000000000014 := by omega
    have hs3 : (sgnS 4).size ≤ 7 := sgnS_size 4
    have hsg : Hid (∀ w, Calls Try.prog 62 #[.int .i64 4, .int .i64 0, .slice none 0 0] w fun e w' => e = .returned (.string (sgnS 4)) ∧ Chg Nothing w w') := hid (fun w => text_sgn 4 (by decide) (by decide) w)
    clear hWa hWb hbb1 hbb2 hba hsa hsb hk
    generalize a.text = u1 at hz1 hW1 ⊢
    generalize br (decide (b.root.kind ∈ [(3 : Int)])) b.text = u2 at hz2 hW2 ⊢
    generalize sgnS 4 = u3 at hs3 hsg ⊢
    have hC0 := hid (((Chg.refl Nothing w).alloc (.cells #[.int .i64 3, .int .i64 x.n, .slice p.A p.l p.c, .int .i64 x.K] 40)).drew)
    have e1 : ¬ (9223372036854775807 < u1.size + 1) := by omega
    have e2 : ¬ (9223372036854775807 < u1.size + 1 + u3.size) := by omega
    have e3 : ¬ (9223372036854775807 < u1.size + 1 + u3.size + 1) := by omega
    have e4 : ¬ (9223372036854775807 < u1.size + 1 + u3.size + 1 + u2.size) := by omega
    clear hz1 hz2 hs3
    go_enter Try.func44, Try.ntmps44
    go_wp2_with fail
    go_region
    go_wp2_with fail
    refine (hsize.out _ hC0.out).mono ?_
    rintro e w1 ⟨rfl, hc1⟩
    have hC1 := hid (hC0.out.trans hc1)
    clear hc1 hC0 c0 c1 c2 c3 hrun hsize
    have hC0 := hC1
    clear hC1
    go_wp2_with fail
    go_region_held3 (fun w' => True) (trivial)
      (first
      | (go_at_call 63; with_reducible refine (hW1.out _ ?hc).mono ?_; (case hc => (repeat (first | with_reducible exact hC0.out | with_reducible apply Chg.drew | with_reducible apply Chg.alloc | with_reducible refine Chg.trans ?_ hcT | with_reducible refine Chg.trans ?_ hcA | with_reducible refine Chg.trans ?_ hcB))); rintro e wA ⟨rfl, hcA⟩)
      | (go_at_call 63; with_reducible refine (hW2.out _ ?hc _ _ _ (ints_3 ?hk)).mono ?_; (case hc => (repeat (first | with_reducible exact hC0.out | with_reducible apply Chg.drew | with_reducible apply Chg.alloc | with_reducible refine Chg.trans ?_ hcT | with_reducible refine Chg.trans ?_ hcA | with_reducible refine Chg.trans ?_ hcB))); (case hk => (repeat (first | ((with_reducible refine Blk.new_at ?_); first | (with_reducible rfl) | (simp only [World.size_alloc]; done) | (simp only [World.size_alloc, World.drew]; done)) | with_reducible apply Blk.alloc | with_reducible apply Blk.drew | with_reducible refine Blk.chg ?_ hcT id | with_reducible refine Blk.chg ?_ hcA id | with_reducible refine Blk.chg ?_ hcB id))); rintro e wB ⟨rfl, hcB⟩)
      | (go_at_call 62; with_reducible refine (hsg.out _).mono ?_; rintro e wT ⟨rfl, hcT⟩))
    all_goals
      go_wp2
      go_ret
      refine ⟨rfl, ?_⟩
      (repeat (first | with_reducible exact hC0.out | with_reducible apply Chg.drew | with_reducible apply Chg.alloc | with_reducible refine Chg.trans ?_ hcT | with_reducible refine Chg.trans ?_ hcA | with_reducible refine Chg.trans ?_ hcB))
end Go.Proofs.Ytllblpiakijpaaa

/- Layer 14: the program's Print. -/
namespace Go.Proofs.Ytllblpiakijpaaa
open Go.RowKit
set_option linter.unusedVariables false
theorem written_any (t : GT) : t.right → WrCon t := by
  induction t with
  | leaf x => intro h; exact written_leaf x h
  | one x a ih => intro h; exact written_one x a h (ih h.one)
  | two x a b iha ihb => intro h; exact written_two x a b h (iha h.left) (ihb h.right)
set_option maxHeartbeats 4000000 in
set_option maxRecDepth 100000 in
theorem print_no (F : Nat → Prop) (A : Option Addr) (n c : Nat) (ps : List NP) (w : World) (H : NRow F w A n c ps) (hn : n ≤ 1000000) (hr : rightN (ps.map NP.x) = false) :
    Calls Try.prog 25 #[.slice A n c] w fun e w' => e = .returned (.tuple #[.string ByteArray.empty, .bool false]) ∧ Chg Nothing w w' := by
  have hR := hid (Right_any F A n c ps w H hn)
  rw [hr] at hR
  clear H hr
  go_enter Try.func25, Try.ntmps25
  go_wp2_with fail
  refine (hR.out).mono ?_
  rintro e w1 ⟨rfl, hc1⟩
  go_wp2
  refine bodyPost_ret (v := .tuple #[.string ByteArray.empty, .bool false]) (by simp [results, Try.results25, go_sem]; rfl) rfl ⟨rfl, hc1⟩
set_option maxHeartbeats 4000000 in
set_option maxRecDepth 100000 in
theorem print_yes (F : Nat → Prop) (A : Option Addr) (n c : Nat) (ps : List NP) (t : GT) (w : World) (H : NRow F w A n c ps) (hn : n ≤ 1000000) (hr : rightN (ps.map NP.x) = true) (ht : t.right) (hps : ps.map NP.x = t.flat) :
    Calls Try.prog 25 #[.slice A n c] w fun e w' => e = .returned (.tuple #[.string t.text, .bool true]) ∧ Chg Nothing w w' := by
  have hR := hid (Right_any F A n c ps w H hn)
  rw [hr] at hR
  have hW := hid (fun (w' : World) (hc : Chg Nothing w w') => written_any t ht F A n c ps w' (H.calm hc) hps hn)
  generalize t.text = u at hW ⊢
  clear H hr ht hps
  go_enter Try.func25, Try.ntmps25
  go_wp2_with fail
  refine (hR.out).mono ?_
  rintro e w1 ⟨rfl, hc1⟩
  have hC1 := hid hc1
  clear hc1
  go_wp2_with fail
  refine (hW.out _ hC1.out).mono ?_
  rintro e w2 ⟨rfl, hc2⟩
  have hC2 := hid (hC1.out.trans hc2)
  clear hc2
  go_wp2
  refine bodyPost_ret (v := .tuple #[.string u, .bool true]) (by simp [results, Try.results25, go_sem]) rfl ⟨rfl, hC2.out⟩
end Go.Proofs.Ytllblpiakijpaaa
