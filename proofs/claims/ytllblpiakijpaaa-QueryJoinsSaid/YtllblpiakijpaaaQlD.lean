/- Layer 14: tokens that go on; brackets; joins: plain words. -/
import Derived.Test.YtllblpiakijpaaaBunM
import Derived.Test.YtllblpiakijpaaaEmb
namespace Go.Proofs.Ytllblpiakijpaaa
open Go.RowKit
set_option linter.unusedVariables false
abbrev keys (ts : List Tok) : List T3 := ts.map Tok.key
theorem keys_cons {t : Tok} {r ts' : List Tok} (h : keys ts' = keys (t :: r)) : ∃ t' r', ts' = t' :: r' ∧ t'.kind = t.kind ∧ t'.n = t.n ∧ t'.p = t.p ∧ keys r' = keys r := by
  cases ts' with
  | nil => cases h
  | cons t' r' =>
    simp only [keys, List.map_cons, List.cons.injEq] at h
    have hk := h.1
    unfold Tok.key at hk
    simp only [Prod.mk.injEq] at hk
    exact ⟨t', r', rfl, hk.1, hk.2.1, hk.2.2, h.2⟩
theorem keys_nil {ts' : List Tok} (h : keys ts' = keys []) : ts' = [] := List.map_eq_nil_iff.1 h
theorem headNot_ext {k : Nat} {q q' rest : List Tok} (h : headNot k q) (hk : keys q' = keys q) (hr : q = [] → headNot k rest) : headNot k (q' ++ rest) := by
  cases q with
  | nil => rw [keys_nil hk]; exact hr rfl
  | cons t r =>
    obtain ⟨t', r', rfl, h1, -, -, -⟩ := keys_cons hk
    intro u p e
    injection e with e1 e2
    subst e1
    rw [h1]; exact h t r rfl
/-- One of the parser's parts goes on as it began, whatever is behind what it left. -/
def Ext (C : List Tok → Prop) (one : List Tok → PR → Prop) : Prop := ∀ ts L q rest, one ts (.ok L q) → (q = [] → C rest) → ∀ ts', keys ts' = keys ts → ∃ q', keys q' = keys q ∧ one (ts' ++ rest) (.ok L (q' ++ rest))
theorem loop_end {one : List Tok → PR → Prop} {sign : Nat} {kind : Int} {out : List Nd} {ts : List Tok} {R : PR} (h : LoopRd one sign kind out ts R) : ∀ L q, R = .ok L q → headNot sign q ∧ (ts = [] → q = []) ∧ ((L = out ∧ ts = q) ∨ ∃ r, L = ⟨kind, 0, [], 0⟩ :: r) := by
  induction h with
  | stop h => intro L q e; injection e with e1 e2; subst e1 e2; exact ⟨h, fun h => h, .inl ⟨rfl, rfl⟩⟩
  | bad h k => intro L q e; cases e
  | @step out L1 t r q1 R h k g ih =>
    intro L q e
    obtain ⟨h1, h2, h3⟩ := ih L q e
    refine ⟨h1, fun h => (by cases h), .inr ?_⟩
    rcases h3 with ⟨rfl, -⟩ | ⟨r', rfl⟩
    · exact ⟨_, rfl⟩
    · exact ⟨r', rfl⟩
theorem loop_ext {C : List Tok → Prop} {one : List Tok → PR → Prop} (hone : Ext C one) {sign : Nat} {kind : Int} {out : List Nd} {ts : List Tok} {R : PR} (h : LoopRd one sign kind out ts R) :
    ∀ L q rest, R = .ok L q → (q = [] → C rest) → ∀ ts', keys ts' = keys ts → ∃ q', keys q' = keys q ∧ ∀ R', LoopRd one sign kind L (q' ++ rest) R' → LoopRd one sign kind out (ts' ++ rest) R' := by
  induction h with
  | stop h => intro L q rest e hC ts' hk; injection e with e1 e2; subst e1 e2; exact ⟨ts', hk, fun R' h => h⟩
  | bad h k => intro L q rest e; cases e
  | @step out L1 t r q1 R h k g ih =>
    intro L q rest e hC ts' hk
    obtain ⟨t', r', rfl, h1, -, -, hr⟩ := keys_cons hk
    obtain ⟨q1', hq1, hk1⟩ := hone r L1 q1 rest k (fun h0 => hC ((loop_end g L q e).2.1 h0)) r' hr
    obtain ⟨q', hq, hgo⟩ := ih L q rest e hC q1' hq1
    exact ⟨q', hq, fun R' h' => .step (by rw [h1, h]) hk1 (hgo R' h')⟩
theorem chain_go {C : List Tok → Prop} {one : List Tok → PR → Prop} (hone : Ext C one) {sign : Nat} {kind : Int} {ts : List Tok} {L : List Nd} {q rest : List Tok} (h : ChainRd one sign kind ts (.ok L q)) (hC : q = [] → C rest) {ts' : List Tok} (hk : keys ts' = keys ts) :
    ∃ q', keys q' = keys q ∧ headNot sign q ∧ ∀ R', LoopRd one sign kind L (q' ++ rest) R' → ChainRd one sign kind (ts' ++ rest) R' := by
  generalize hR : PR.ok L q = R at h
  cases h with
  | bad k => cases hR
  | @go L1 q1 _ k g =>
    subst hR
    have he := loop_end g L q rfl
    obtain ⟨q1', hq1, hk1⟩ := hone ts L1 q1 rest k (fun h0 => hC (he.2.1 h0)) ts' hk
    obtain ⟨q', hq, hgo⟩ := loop_ext hone g L q rest rfl hC q1' hq1
    exact ⟨q', hq, he.1, fun R' h' => .go hk1 (hgo R' h')⟩
theorem chain_ext {C : List Tok → Prop} {one : List Tok → PR → Prop} (hone : Ext C one) (sign : Nat) (kind : Int) : Ext (fun rest => C rest ∧ headNot sign rest) (ChainRd one sign kind) := by
  intro ts L q rest h hC ts' hk
  obtain ⟨q', hq, hn, hgo⟩ := chain_go hone h (fun h0 => (hC h0).1) hk
  exact ⟨q', hq, hgo _ (.stop (headNot_ext hn hq (fun h0 => (hC h0).2)))⟩
theorem item_ext (n : Nat) : Ext (headNot 7) (itemR n) := by
  induction n with
  | zero => intro ts L q rest h; exact h.elim
  | succ n ih =>
    have hq := chain_ext (chain_ext ih 3 2) 4 3
    intro ts L q rest h hC ts' hk
    rw [itemR_succ] at h ⊢
    generalize hR : PR.ok L q = R at h
    cases h with
    | @notOk t r q1 L1 h k =>
      injection hR with e1 e2; subst e1 e2
      obtain ⟨t', r', rfl, h1, -, -, hr⟩ := keys_cons hk
      obtain ⟨q', h2, h3⟩ := ih r L1 q rest k hC r' hr
      exact ⟨q', h2, .notOk (by rw [h1, h]) h3⟩
    | @shiftOk t r q1 L1 h k =>
      injection hR with e1 e2; subst e1 e2
      obtain ⟨t', r', rfl, h1, hn, -, hr⟩ := keys_cons hk
      obtain ⟨q', h2, h3⟩ := ih r L1 q rest k hC r' hr
      have := ItemStep.shiftOk (I := itemR n) (Q := queryR n) (t := t') (by rw [h1, h]) h3
      rw [hn] at this
      exact ⟨q', h2, this⟩
    | @fuzz t u r h hu hn =>
      injection hR with e1 e2; subst e1 e2
      obtain ⟨t', r', rfl, h1, -, hp, hr⟩ := keys_cons hk
      obtain ⟨u', r2, rfl, h2, hn2, -, hr2⟩ := keys_cons hr
      have := ItemStep.fuzz (I := itemR n) (Q := queryR n) (t := t') (u := u') (r := r2 ++ rest) (by rw [h1, h]) (by rw [h2, hu]) (by rw [hn2]; exact hn)
      rw [hp, hn2] at this
      exact ⟨r2, hr2, this⟩
    | @pat t r h hr7 =>
      injection hR with e1 e2; subst e1 e2
      obtain ⟨t', r', rfl, h1, -, hp, hr⟩ := keys_cons hk
      have := ItemStep.pat (I := itemR n) (Q := queryR n) (t := t') (r := r' ++ rest) (by rw [h1, h]) (headNot_ext hr7 hr hC)
      rw [hp] at this
      exact ⟨r', hr, this⟩
    | @openOk t u r q1 L1 h k hu =>
      injection hR with e1 e2; subst e1 e2
      obtain ⟨t', r', rfl, h1, -, -, hr⟩ := keys_cons hk
      obtain ⟨q2, h2, h3⟩ := hq r L (u :: q) rest k (fun h0 => by cases h0) r' hr
      obtain ⟨u', q', rfl, h4, -, -, hq'⟩ := keys_cons h2
      exact ⟨q', hq', .openOk (by rw [h1, h]) h3 (by rw [h4, hu])⟩
    | notBad => cases hR
    | shiftBad => cases hR
    | fuzzBad => cases hR
    | openBad => cases hR
    | openMiss => cases hR
    | other => cases hR
theorem part_ext (n : Nat) : Ext (fun rest => headNot 7 rest ∧ headNot 3 rest) (partR n) := chain_ext (item_ext n) 3 2
theorem query_ext (n : Nat) : Ext (fun rest => (headNot 7 rest ∧ headNot 3 rest) ∧ headNot 4 rest) (queryR n) := chain_ext (part_ext n) 4 3
/-! ### More steps serve as well -/
theorem loop_mono {one one' : List Tok → PR → Prop} (h1 : ∀ ts R, one ts R → one' ts R) {sign : Nat} {kind : Int} {out : List Nd} {ts : List Tok} {R : PR} (h : LoopRd one sign kind out ts R) : LoopRd one' sign kind out ts R := by
  induction h with
  | stop h => exact .stop h
  | bad h k => exact .bad h (h1 _ _ k)
  | step h k g ih => exact .step h (h1 _ _ k) ih
theorem chain_mono {one one' : List Tok → PR → Prop} (h1 : ∀ ts R, one ts R → one' ts R) {sign : Nat} {kind : Int} {ts : List Tok} {R : PR} (h : ChainRd one sign kind ts R) : ChainRd one' sign kind ts R := by
  cases h with
  | bad k => exact .bad (h1 _ _ k)
  | go k g => exact .go (h1 _ _ k) (loop_mono h1 g)
theorem item_mono (n : Nat) : ∀ ts R, itemR n ts R → itemR (n + 1) ts R := by
  induction n with
  | zero => intro ts R h; exact h.elim
  | succ n ih =>
    have hq : ∀ ts R, queryR n ts R → queryR (n + 1) ts R := fun ts R h => chain_mono (fun _ _ h => chain_mono ih h) h
    intro ts R h
    rw [itemR_succ] at h ⊢
    cases h with
    | notOk h k => exact .notOk h (ih _ _ k)
    | notBad h k => exact .notBad h (ih _ _ k)
    | shiftOk h k => exact .shiftOk h (ih _ _ k)
    | shiftBad h k => exact .shiftBad h (ih _ _ k)
    | fuzzBad h hu hn => exact .fuzzBad h hu hn
    | fuzz h hu hn => exact .fuzz h hu hn
    | pat h hr => exact .pat h hr
    | openOk h k hu => exact .openOk h (hq _ _ k) hu
    | openBad h k => exact .openBad h (hq _ _ k)
    | openMiss h k hm => exact .openMiss h (hq _ _ k) hm
    | other h5 h6 h8 h1 => exact .other h5 h6 h8 h1
theorem query_mono1 (n : Nat) : ∀ ts R, queryR n ts R → queryR (n + 1) ts R := fun ts R h => chain_mono (fun _ _ h => chain_mono (item_mono n) h) h
theorem query_mono {n m : Nat} (h : n ≤ m) {ts : List Tok} {R : PR} (hR : queryR n ts R) : queryR m ts R := by
  induction h with
  | refl => exact hR
  | step _ ih => exact query_mono1 _ _ _ ih
theorem item_mono' {n m : Nat} (h : n ≤ m) {ts : List Tok} {R : PR} (hR : itemR n ts R) : itemR m ts R := by
  induction h with
  | refl => exact hR
  | step _ ih => exact item_mono _ _ _ ih
/-- An item by itself is a query. -/
theorem item_query {n : Nat} {ts q : List Tok} {L : List Nd} (h : itemR n ts (.ok L q)) (h3 : headNot 3 q) (h4 : headNot 4 q) : queryR n ts (.ok L q) := .go (.go h (.stop h3)) (.stop h4)
theorem open_item {n : Nat} {o c : Tok} {ts q : List Tok} {L : List Nd} (ho : o.kind = 1) (hc : c.kind = 2) (h : queryR n ts (.ok L (c :: q))) : itemR (n + 1) (o :: ts) (.ok L q) := by
  rw [itemR_succ]; exact .openOk ho h hc
theorem head_kind {k k' : Nat} {t : Tok} {r : List Tok} (h : t.kind = k) (hk : k ≠ k') : headNot k' (t :: r) := fun u q e => by injection e with e1 e2; subst e1; omega
theorem head_nil (k : Nat) : headNot k [] := fun t r e => by cases e
/-! ### Texts -/
theorem lex_sign {T : ByteArray} {a k b0 : Nat} {L : List Tok} {R : Rd (List Tok)} (ha : a < T.size) (hb : byteAt T a = b0) (h32 : b0 ≠ 32) (h34 : b0 ≠ 34) (hk : kindV b0 = k) (h1 : 1 ≤ k) (h6 : k < 6) (r : LexRun T (a + 1) (L ++ [⟨k, a, 0, []⟩]) R) : LexRun T a L R :=
  .step ha (by rw [hb]; exact h32) (.sign (by rw [hb]; exact h34) (by rw [hb]; exact hk) h1 h6) r
theorem emb_mid (u s v : ByteArray) (h : ¬ isDig (u ++ s ++ v) (u.size + s.size)) : Emb s (u ++ s ++ v) u.size := by
  refine ⟨by simp only [ByteArray.size_append]; omega, fun k hk => ?_, h⟩
  rw [byteAt_append, if_pos (by rw [ByteArray.size_append]; omega), byteAt_append, if_neg (by omega), Nat.add_sub_cancel_left]
theorem byteAt_behind (u s v : ByteArray) (k : Nat) : byteAt (u ++ s ++ v) (u.size + s.size + k) = byteAt v k := by
  rw [byteAt_append, if_neg (by rw [ByteArray.size_append]; omega), ByteArray.size_append, Nat.add_sub_cancel_left]
theorem byteAt_ahead (u s v : ByteArray) (k : Nat) (h : k < u.size) : byteAt (u ++ s ++ v) k = byteAt u k := by
  rw [byteAt_append, if_pos (by rw [ByteArray.size_append]; omega), byteAt_append, if_pos h]
theorem lexS_run {s : ByteArray} {ts : List Tok} {nx : Nat} (h : lexS s (.ok ts nx)) : s.size ≤ 1000 ∧ LexRun s 0 [] (.ok ts nx) := by
  unfold lexS at h
  by_cases hb : 1000 < s.size
  · rw [if_pos hb] at h; cases h
  · rw [if_neg hb] at h; exact ⟨by omega, h⟩
theorem run_lexS {s : ByteArray} {R : Rd (List Tok)} (hs : s.size ≤ 1000) (h : LexRun s 0 [] R) : lexS s R := by
  unfold lexS; rw [if_neg (by omega)]; exact h
theorem emb_run {s T : ByteArray} {o nx : Nat} {ts : List Tok} (h : Emb s T o) (hr : LexRun s 0 [] (.ok ts nx)) {L : List Tok} {R : Rd (List Tok)} (k : LexRun T (o + s.size) (L ++ ts.map (Tok.sh o)) R) : LexRun T o L R := by
  obtain ⟨us, e, hgo⟩ := h.lex hr (Nat.zero_le _) ts nx rfl
  rw [List.nil_append] at e
  subst e
  exact hgo L R k
theorem keys_sh (o : Nat) (ts : List Tok) : keys (ts.map (Tok.sh o)) = keys ts := by
  unfold keys; rw [List.map_map]; rfl
/-- What is parsed well. -/
theorem parse_ok {s : ByteArray} {L : List Nd} {a : Int} (h : ParseR s L a 0) : ∃ ts nx, LexRun s 0 [] (.ok ts nx) ∧ queryR (ts.length + 1) ts (.ok L []) ∧ s.size ≤ 1000 ∧ L.length ≤ 64 ∧ depthN L ≤ 16 := by
  generalize hno : (0 : Int) = no at h
  cases h with
  | lex h h0 => exact absurd hno.symm h0
  | @toks ts nx R L a no h h1 h2 =>
    subst hno
    obtain ⟨hs, hr⟩ := lexS_run h
    cases R with
    | bad q => have := h2.2.2; omega
    | ok L0 q =>
      cases q with
      | cons t q => have := h2.2.2; omega
      | nil =>
        rcases h2 with ⟨-, -, -, h⟩ | ⟨-, -, -, -, h⟩ | ⟨h64, h16, rfl, -, -⟩
        · omega
        · omega
        · exact ⟨ts, nx, hr, h1, hs, h64, h16⟩
def opens : ByteArray := ⟨#[40, 40]⟩
def closes : ByteArray := ⟨#[41, 41]⟩
theorem parse_brackets {s : ByteArray} {L : List Nd} {a : Int} (h : ParseR s L a 0) (hs : s.size ≤ 500) : ParseR (opens ++ s ++ closes) L ((opens ++ s ++ closes).size : Nat) 0 := by
  obtain ⟨ts, nx, hr, hq, -, h64, h16⟩ := parse_ok h
  have z1 : opens.size = 2 := rfl
  have z2 : closes.size = 2 := rfl
  have hsz : (opens ++ s ++ closes).size = s.size + 4 := by simp only [ByteArray.size_append]; omega
  have b0 : byteAt (opens ++ s ++ closes) 0 = 40 := by rw [byteAt_ahead _ _ _ _ (by decide)]; decide
  have b1 : byteAt (opens ++ s ++ closes) 1 = 40 := by rw [byteAt_ahead _ _ _ _ (by decide)]; decide
  have b2 : byteAt (opens ++ s ++ closes) (2 + s.size) = 41 := by have := byteAt_behind opens s closes 0; rw [z1, Nat.add_zero] at this; rw [this]; decide
  have b3 : byteAt (opens ++ s ++ closes) (2 + s.size + 1) = 41 := by have := byteAt_behind opens s closes 1; rw [z1] at this; rw [this]; decide
  have hE := emb_mid opens s closes (by unfold isDig; rw [z1, b2]; omega)
  rw [z1] at hE
  have hlex : LexRun (opens ++ s ++ closes) 0 [] (.ok (⟨1, 0, 0, []⟩ :: ⟨1, 1, 0, []⟩ :: (ts.map (Tok.sh 2) ++ [⟨2, 2 + s.size, 0, []⟩, ⟨2, 2 + s.size + 1, 0, []⟩])) (opens ++ s ++ closes).size) := by
    refine lex_sign (k := 1) (by omega) b0 (by decide) (by decide) (by decide +kernel) (by decide) (by decide) ?_
    refine lex_sign (k := 1) (by omega) b1 (by decide) (by decide) (by decide +kernel) (by decide) (by decide) ?_
    refine emb_run hE hr ?_
    refine lex_sign (k := 2) (by omega) b2 (by decide) (by decide) (by decide +kernel) (by decide) (by decide) ?_
    refine lex_sign (k := 2) (by omega) b3 (by decide) (by decide) (by decide +kernel) (by decide) (by decide) ?_
    simp only [List.nil_append, List.cons_append, List.append_assoc]
    exact .stop (by omega)
  refine .toks (run_lexS (by omega) hlex) (R := .ok L []) ?_ (.inr (.inr ⟨h64, h16, rfl, rfl, rfl⟩))
  obtain ⟨q', hq', h1⟩ := query_ext _ ts L [] [⟨2, 2 + s.size, 0, []⟩, ⟨2, 2 + s.size + 1, 0, []⟩] hq (fun _ => ⟨⟨head_kind (k := 2) rfl (by decide), head_kind (k := 2) rfl (by decide)⟩, head_kind (k := 2) rfl (by decide)⟩) (ts.map (Tok.sh 2)) (keys_sh 2 ts)
  rw [keys_nil hq', List.nil_append] at h1
  have h2 := item_query (open_item (o := ⟨1, 1, 0, []⟩) rfl rfl h1) (head_kind (k := 2) rfl (by decide)) (head_kind (k := 2) rfl (by decide))
  have h3 := item_query (open_item (o := ⟨1, 0, 0, []⟩) rfl rfl h2) (head_nil 3) (head_nil 4)
  exact query_mono (by simp) h3
def notShift : ByteArray := ⟨#[33, 62, 55, 40]⟩
def close1 : ByteArray := ⟨#[41]⟩
theorem parse_notShift {s : ByteArray} {L : List Nd} {a : Int} (h : ParseR s L a 0) (hs : s.size ≤ 500) (hl : L.length ≤ 62) (hd : depthN L ≤ 14) : ParseR (notShift ++ s ++ close1) (⟨4, 0, [], 0⟩ :: ⟨5, 7, [], 0⟩ :: L) ((notShift ++ s ++ close1).size : Nat) 0 := by
  obtain ⟨-, -, hf⟩ := parseR_facts h
  obtain ⟨t, ht, rfl, -, -⟩ : ∃ t : GT, t.right ∧ L = t.flat ∧ t.flat.length ≤ 64 ∧ t.deep ≤ 16 := by
    rcases hf with ⟨-, -, h⟩ | ⟨h, -⟩
    · exact h
    · exact absurd rfl h
  obtain ⟨ts, nx, hr, hq, -, h64, h16⟩ := parse_ok h
  have z1 : notShift.size = 4 := rfl
  have z2 : close1.size = 1 := rfl
  have hsz : (notShift ++ s ++ close1).size = s.size + 5 := by simp only [ByteArray.size_append]; omega
  have b0 : byteAt (notShift ++ s ++ close1) 0 = 33 := by rw [byteAt_ahead _ _ _ _ (by decide)]; decide
  have b1 : byteAt (notShift ++ s ++ close1) 1 = 62 := by rw [byteAt_ahead _ _ _ _ (by decide)]; decide
  have b2 : byteAt (notShift ++ s ++ close1) 2 = 55 := by rw [byteAt_ahead _ _ _ _ (by decide)]; decide
  have b3 : byteAt (notShift ++ s ++ close1) 3 = 40 := by rw [byteAt_ahead _ _ _ _ (by decide)]; decide
  have b4 : byteAt (notShift ++ s ++ close1) (4 + s.size) = 41 := by have := byteAt_behind notShift s close1 0; rw [z1, Nat.add_zero] at this; rw [this]; decide
  have hE := emb_mid notShift s close1 (by unfold isDig; rw [z1, b4]; omega)
  rw [z1] at hE
  have hlex : LexRun (notShift ++ s ++ close1) 0 [] (.ok (⟨5, 0, 0, []⟩ :: ⟨6, 1, 7, []⟩ :: ⟨1, 3, 0, []⟩ :: (ts.map (Tok.sh 4) ++ [⟨2, 4 + s.size, 0, []⟩])) (notShift ++ s ++ close1).size) := by
    refine lex_sign (k := 5) (by omega) b0 (by decide) (by decide) (by decide +kernel) (by decide) (by decide) ?_
    refine .step (t := ⟨6, 1, 7, []⟩) (b := 3) (by omega) (by rw [b1]; decide) ?_ ?_
    · have h := TokRd.num (s := notShift ++ s ++ close1) (a := 1) (k := 6) (m := 1) (by rw [b1]; decide) (by rw [b1]; decide +kernel) (by decide) ⟨fun j hj => by
        obtain rfl : j = 0 := by omega
        unfold isDig; rw [show 1 + 1 + 0 = 2 from rfl, b2]; omega, by unfold isDig; rw [show 1 + 1 + 1 = 3 from rfl, b3]; omega⟩
      have hv : valD (notShift ++ s ++ close1) (1 + 1) 1 = 7 := by
        show 10 * 0 + (byteAt (notShift ++ s ++ close1) 2 - 48) = 7
        rw [b2]
      have hn : numS (notShift ++ s ++ close1) (1 + 1) 1 = .ok 7 3 := by
        unfold numS; rw [hv, if_neg (by omega)]
      rw [hn] at h
      exact h
    refine lex_sign (k := 1) (by omega) b3 (by decide) (by decide) (by decide +kernel) (by decide) (by decide) ?_
    refine emb_run hE hr ?_
    refine lex_sign (k := 2) (by omega) b4 (by decide) (by decide) (by decide +kernel) (by decide) (by decide) ?_
    simp only [List.nil_append, List.cons_append]
    exact .stop (by omega)
  have hflat : (⟨4, 0, [], 0⟩ :: ⟨5, 7, [], 0⟩ :: t.flat : List Nd) = (GT.one ⟨4, 0, [], 0⟩ (GT.one ⟨5, 7, [], 0⟩ t)).flat := rfl
  have hdd : depthN (⟨4, 0, [], 0⟩ :: ⟨5, 7, [], 0⟩ :: t.flat) = t.deep + 2 := by
    rw [hflat, depthN_tree (show (GT.one ⟨4, 0, [], 0⟩ (GT.one ⟨5, 7, [], 0⟩ t)).ok from ⟨.inl rfl, .inr rfl, ht.1⟩)]; rfl
  rw [depthN_tree ht.1] at hd
  refine .toks (run_lexS (by omega) hlex) (R := .ok (⟨4, 0, [], 0⟩ :: ⟨5, 7, [], 0⟩ :: t.flat) []) ?_ (.inr (.inr ⟨by simp only [List.length_cons]; omega, by omega, rfl, rfl, rfl⟩))
  obtain ⟨q', hq', h1⟩ := query_ext _ ts t.flat [] [⟨2, 4 + s.size, 0, []⟩] hq (fun _ => ⟨⟨head_kind (k := 2) rfl (by decide), head_kind (k := 2) rfl (by decide)⟩, head_kind (k := 2) rfl (by decide)⟩) (ts.map (Tok.sh 4)) (keys_sh 4 ts)
  rw [keys_nil hq', List.nil_append] at h1
  have h2 := open_item (o := ⟨1, 3, 0, []⟩) rfl rfl h1
  have h3 : itemR (ts.length + 1 + 1 + 1) (⟨6, 1, 7, []⟩ :: ⟨1, 3, 0, []⟩ :: (ts.map (Tok.sh 4) ++ [⟨2, 4 + s.size, 0, []⟩])) (.ok (⟨5, 7, [], 0⟩ :: t.flat) []) := by
    rw [itemR_succ]; exact .shiftOk (t := ⟨6, 1, 7, []⟩) rfl h2
  have h4 : itemR (ts.length + 1 + 1 + 1 + 1) (⟨5, 0, 0, []⟩ :: ⟨6, 1, 7, []⟩ :: ⟨1, 3, 0, []⟩ :: (ts.map (Tok.sh 4) ++ [⟨2, 4 + s.size, 0, []⟩])) (.ok (⟨4, 0, [], 0⟩ :: ⟨5, 7, [], 0⟩ :: t.flat) []) := by
    rw [itemR_succ]; exact .notOk (t := ⟨5, 0, 0, []⟩) rfl h3
  exact query_mono (by simp) (item_query h4 (head_nil 3) (head_nil 4))
/-! ### Joins -/
theorem query_part {n : Nat} {ts : List Tok} {M : List Nd} (h : queryR n ts (.ok M [])) (hM : ∀ r, M ≠ ⟨3, 0, [], 0⟩ :: r) : partR n ts (.ok M []) := by
  generalize hR : PR.ok M ([] : List Tok) = R at h
  cases h with
  | bad k => cases hR
  | @go L1 q1 _ k g =>
    subst hR
    rcases (loop_end g M [] rfl).2.2 with ⟨rfl, rfl⟩ | ⟨r, e⟩
    · exact k
    · exact absurd e (hM r)
theorem part_item {n : Nat} {ts : List Tok} {M : List Nd} (h : partR n ts (.ok M [])) (hM : ∀ r, M ≠ ⟨2, 0, [], 0⟩ :: r) : itemR n ts (.ok M []) := by
  generalize hR : PR.ok M ([] : List Tok) = R at h
  cases h with
  | bad k => cases hR
  | @go L1 q1 _ k g =>
    subst hR
    rcases (loop_end g M [] rfl).2.2 with ⟨rfl, rfl⟩ | ⟨r, e⟩
    · exact k
    · exact absurd e (hM r)
theorem part_mono' {n m : Nat} (h : n ≤ m) {ts : List Tok} {R : PR} (hR : partR n ts R) : partR m ts R := chain_mono (fun _ _ h' => item_mono' h h') hR
theorem lex_join {s t : ByteArray} {ts1 ts2 : List Tok} {n1 n2 k b0 : Nat} (h1 : LexRun s 0 [] (.ok ts1 n1)) (h2 : LexRun t 0 [] (.ok ts2 n2)) (hs : s.size + t.size ≤ 900) (h32 : b0 ≠ 32) (h34 : b0 ≠ 34) (hd : ¬ (48 ≤ b0 ∧ b0 ≤ 57)) (hk : kindV b0 = k) (hk1 : 1 ≤ k) (hk6 : k < 6) {c : ByteArray} (hc : c.size = 1) (hcb : byteAt c 0 = b0) :
    lexS (s ++ c ++ t) (.ok (ts1.map (Tok.sh 0) ++ ⟨k, s.size, 0, []⟩ :: ts2.map (Tok.sh (s.size + 1))) (s ++ c ++ t).size) := by
  have hsz : (s ++ c ++ t).size = s.size + 1 + t.size := by simp only [ByteArray.size_append]; omega
  have b1 : byteAt (s ++ c ++ t) s.size = b0 := by
    rw [byteAt_append, if_pos (by rw [ByteArray.size_append]; omega), byteAt_append, if_neg (by omega), Nat.sub_self]; exact hcb
  have hE1 : Emb s (s ++ c ++ t) 0 := by
    refine ⟨by omega, fun k hk => ?_, ?_⟩
    · rw [Nat.zero_add, byteAt_append, if_pos (by rw [ByteArray.size_append]; omega), byteAt_append, if_pos hk]
    · unfold isDig; rw [Nat.zero_add, b1]; rintro ⟨_, h⟩; exact hd h
  have hE2 : Emb t (s ++ c ++ t) (s.size + 1) := by
    refine ⟨by omega, fun k hk => ?_, ?_⟩
    · have e : s.size + 1 = (s ++ c).size := by rw [ByteArray.size_append, hc]
      rw [byteAt_append, if_neg (by omega), e, Nat.add_sub_cancel_left]
    · unfold isDig; omega
  refine run_lexS (by omega) ?_
  refine emb_run hE1 h1 ?_
  rw [Nat.zero_add]
  refine lex_sign (by omega) b1 h32 h34 hk hk1 hk6 ?_
  refine emb_run hE2 h2 ?_
  simp only [List.nil_append, List.cons_append, List.append_assoc]
  exact .stop (by omega)
theorem join_depth {x : Nd} {L M : List Nd} {t u : GT} (hx : x.kind = 2 ∨ x.kind = 3) (ht : t.ok) (hu : u.ok) (hL : L = t.flat) (hM : M = u.flat) : depthN (x :: (L ++ M)) = max (depthN L) (depthN M) + 1 := by
  subst hL hM
  rw [depthN_tree ht, depthN_tree hu, show x :: (t.flat ++ u.flat) = (GT.two x t u).flat from rfl, depthN_tree (show (GT.two x t u).ok from ⟨hx, ht, hu⟩)]; rfl
theorem parse_tree {s : ByteArray} {L : List Nd} {a : Int} (h : ParseR s L a 0) : ∃ t : GT, t.right ∧ L = t.flat := by
  obtain ⟨-, -, hf⟩ := parseR_facts h
  rcases hf with ⟨-, -, t, ht, e, -, -⟩ | ⟨h, -⟩
  · exact ⟨t, ht, e⟩
  · exact absurd rfl h
def bar1 : ByteArray := ⟨#[124]⟩
def amp1 : ByteArray := ⟨#[38]⟩
theorem parse_or {s t : ByteArray} {L M : List Nd} {a b : Int} (h1 : ParseR s L a 0) (h2 : ParseR t M b 0) (hs : s.size + t.size ≤ 900) (hl : L.length + M.length < 64) (hd : max (depthN L) (depthN M) < 16) (hM : ∀ r, M ≠ ⟨3, 0, [], 0⟩ :: r) :
    ParseR (s ++ bar1 ++ t) (⟨3, 0, [], 0⟩ :: (L ++ M)) ((s ++ bar1 ++ t).size : Nat) 0 := by
  obtain ⟨g1, hg1, e1⟩ := parse_tree h1
  obtain ⟨g2, hg2, e2⟩ := parse_tree h2
  have hdd := join_depth (x := ⟨3, 0, [], 0⟩) (.inr rfl) hg1.1 hg2.1 e1 e2
  obtain ⟨ts1, n1, r1, q1, -, -, -⟩ := parse_ok h1
  obtain ⟨ts2, n2, r2, q2, -, -, -⟩ := parse_ok h2
  have hlex := lex_join (k := 4) (b0 := 124) r1 r2 hs (by decide) (by decide) (by omega) (by decide +kernel) (by decide) (by decide) (c := bar1) rfl (by decide)
  refine .toks hlex (R := .ok (⟨3, 0, [], 0⟩ :: (L ++ M)) []) ?_ (.inr (.inr ⟨by simp only [List.length_cons, List.length_append]; omega, by omega, rfl, rfl, rfl⟩))
  have k1 := query_mono (m := ts1.length + ts2.length + 1) (by omega) q1
  have k2 := part_mono' (m := ts1.length + ts2.length + 1) (by omega) (query_part q2 hM)
  obtain ⟨q', hq', h3⟩ := part_ext _ ts2 M [] [] k2 (fun _ => ⟨head_nil 7, head_nil 3⟩) (ts2.map (Tok.sh (s.size + 1))) (keys_sh _ ts2)
  rw [keys_nil hq', List.append_nil, List.nil_append] at h3
  obtain ⟨q0, hq0, -, hgo⟩ := chain_go (part_ext _) (sign := 4) (kind := 3) (rest := ⟨4, s.size, 0, []⟩ :: ts2.map (Tok.sh (s.size + 1))) k1 (fun _ => ⟨head_kind (k := 4) rfl (by decide), head_kind (k := 4) rfl (by decide)⟩) (keys_sh 0 ts1)
  rw [keys_nil hq0, List.nil_append] at hgo
  have := hgo _ (.step (t := ⟨4, s.size, 0, []⟩) rfl h3 (.stop (head_nil 4)))
  exact query_mono (by simp) this
theorem parse_and {s t : ByteArray} {L M : List Nd} {a b : Int} (h1 : ParseR s L a 0) (h2 : ParseR t M b 0) (hs : s.size + t.size ≤ 900) (hl : L.length + M.length < 64) (hd : max (depthN L) (depthN M) < 16) (hL : ∀ r, L ≠ ⟨3, 0, [], 0⟩ :: r) (hM : ∀ r, M ≠ ⟨3, 0, [], 0⟩ :: r) (hM2 : ∀ r, M ≠ ⟨2, 0, [], 0⟩ :: r) :
    ParseR (s ++ amp1 ++ t) (⟨2, 0, [], 0⟩ :: (L ++ M)) ((s ++ amp1 ++ t).size : Nat) 0 := by
  obtain ⟨g1, hg1, e1⟩ := parse_tree h1
  obtain ⟨g2, hg2, e2⟩ := parse_tree h2
  have hdd := join_depth (x := ⟨2, 0, [], 0⟩) (.inl rfl) hg1.1 hg2.1 e1 e2
  obtain ⟨ts1, n1, r1, q1, -, -, -⟩ := parse_ok h1
  obtain ⟨ts2, n2, r2, q2, -, -, -⟩ := parse_ok h2
  have hlex := lex_join (k := 3) (b0 := 38) r1 r2 hs (by decide) (by decide) (by omega) (by decide +kernel) (by decide) (by decide) (c := amp1) rfl (by decide)
  refine .toks hlex (R := .ok (⟨2, 0, [], 0⟩ :: (L ++ M)) []) ?_ (.inr (.inr ⟨by simp only [List.length_cons, List.length_append]; omega, by omega, rfl, rfl, rfl⟩))
  have k1 := part_mono' (m := ts1.length + ts2.length + 1) (by omega) (query_part q1 hL)
  have k2 := item_mono' (m := ts1.length + ts2.length + 1) (by omega) (part_item (query_part q2 hM) hM2)
  obtain ⟨q', hq', h3⟩ := item_ext _ ts2 M [] [] k2 (fun _ => head_nil 7) (ts2.map (Tok.sh (s.size + 1))) (keys_sh _ ts2)
  rw [keys_nil hq', List.append_nil, List.nil_append] at h3
  obtain ⟨q0, hq0, -, hgo⟩ := chain_go (item_ext _) (sign := 3) (kind := 2) (rest := ⟨3, s.size, 0, []⟩ :: ts2.map (Tok.sh (s.size + 1))) k1 (fun _ => head_kind (k := 3) rfl (by decide)) (keys_sh 0 ts1)
  rw [keys_nil hq0, List.nil_append] at hgo
  have := hgo _ (.step (t := ⟨3, s.size, 0, []⟩) rfl h3 (.stop (head_nil 3)))
  exact query_mono (by simp) (.go this (.stop (head_nil 4)))
end Go.Proofs.Ytllblpiakijpaaa
