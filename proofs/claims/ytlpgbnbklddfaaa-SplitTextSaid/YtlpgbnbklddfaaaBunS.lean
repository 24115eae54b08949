/- Joined texts: Rng SmbK SmbL SmbM SmbN. -/
import Derived.Test.YtlpgbnbklddfaaaBunQ
import Derived.Test.YtlpgbnbklddfaaaBunR
import Derived.Deep.RegionHeld3
import Derived.Shelf.Abstract
import Derived.Shelf.RegionOpen
/- A range over a function whose elements lie in memory: the iterator tells, with each element, what holds of it; the body may write a set of blocks that lay ahead of the loop. No program. -/
namespace Go.Proofs.Ytlpgbnbklddfaaa
open Go.RowKit
set_option linter.unusedVariables false
section
variable {P : Program} {F : Fence} {n : Nat} {α : Type}
/-- Blocks of book-keeping: laid behind world size B, no cells. -/
def Book (B : Nat) (T : Nat → Prop) (A : World) : Prop := ∀ k, T k → B ≤ k ∧ ∃ o : Obj, A.heap[k]? = some o ∧ o.isCells = false
/-- What the loop's book-keeping does not turn. -/
def Stays (B : Nat) (I : World → Prop) : Prop := ∀ (A C : World) (T : Nat → Prop), Book B T A → Chg T A C → I A → I C
/-- An iterator's contract: G tells of each element what holds when it is handed over; S: what a round may write; E: what has come when all is over; X: when a round has left. -/
def Gives (F : Fence) (n : Nat) (P : Program) (g : Nat) (lb : Array Value) (encs : α → Array Value) (S : Nat → Prop) (G : List α → α → World → Prop) (E X : List α → Prop) (w : World) : Prop :=
  ∀ (l : Nat) (J Jx : List α → World → Prop) (W : World), Chg Nothing w W →
    (∀ pre A C, Chg Nothing A C → J pre A → J pre C) → (∀ pre A C, Chg Nothing A C → Jx pre A → Jx pre C) →
    (∀ pre x W1, Chg S w W1 → J pre W1 → G pre x W1 → YieldAt F (n - 1) P l (encs x) W1 fun e W' =>
      (e = .returned (.bool true) ∧ J (pre ++ [x]) W' ∧ Chg S W1 W') ∨ (e = .returned (.bool false) ∧ Jx (pre ++ [x]) W')) →
    J [] W →
    CallsIn F n P g (#[.func (.yield l) #[] #[]] ++ lb) W fun e W' => (∃ v, e = .returned v) ∧ ((∃ xs, E xs ∧ J xs W') ∨ (∃ pre, X pre ∧ Jx pre W'))
/-- How a body may be left. -/
def leftBy (S : Nat → Prop) (I : List α → World → Prop) (Ix : Code → List α → World → Prop) (xs : List α) (W : World) : Exit → Act → World → Prop
  | .normal, _, W' => Chg S W W' ∧ I xs W'
  | .ret, _, W' => Chg S W W' ∧ Ix .ret xs W'
  | .exit id, _, W' => Chg S W W' ∧ Ix (.exit id) xs W'
  | .goto t, _, W' => Chg S W W' ∧ Ix (.goto t) xs W'
  | .panic _, _, _ => False
  | .outgrown, _, _ => False
theorem Chg.up {S : Nat → Prop} {a b : World} (h : Chg Nothing a b) : Chg S a b := h.mono (fun _ _ h => (show False from h).elim)
theorem chg_put (W : World) (k : Nat) (o : Obj) : Chg (fun j => j = k) W (W.putObj k o) := Chg.of_grownBy (grownBy_putObj' W k o) (fun _ h _ => by cases h; rfl)
theorem book_one {B k : Nat} {W : World} {o : Obj} (hB : B ≤ k) (h : W.heap[k]? = some o) (ho : o.isCells = false) : Book B (fun j => j = k) W := fun _ e => e ▸ ⟨hB, o, h, ho⟩
theorem Stays.put {B k : Nat} {I : World → Prop} (h : Stays B I) {W : World} {o o' : Obj} (hB : B ≤ k) (hk : W.heap[k]? = some o) (ho : o.isCells = false) (hi : I W) : I (W.putObj k o') := h _ _ _ (book_one hB hk ho) (chg_put W k o') hi
theorem Stays.calm {B : Nat} {I : World → Prop} (h : Stays B I) {W W' : World} (hc : Chg Nothing W W') (hi : I W) : I W' := h _ _ Nothing (fun _ h => h.elim) hc hi
/-- Chg of a set that lies below B, and book-keeping: what lay below B. -/
theorem wpIn_range_gives {g : Operand} {ps : Array Tmp} {assign body : Code} {Q : Exit → Act → World → Prop} {a : Act} {w : World}
    (hro : F.round = none) (h1 : 1 ≤ n) {gf : Nat} {lb : Array Value} (hg : a.eval g = .func (.func gf) #[] lb) (hFg : F.fn gf) (eg : ∀ args w, (callFunc gf args).run P w = .ok (.enter gf args) w)
    {encs : α → Array Value} (hps : ∀ x, (encs x).size = ps.size) {S : Nat → Prop} {G : List α → α → World → Prop} {E X : List α → Prop} (hS : ∀ k, S k → k < w.heap.size)
    (hseq : ∀ w1, Chg Nothing w w1 → w.heap.size + 2 ≤ w1.heap.size → Gives F (n - 1) P gf lb encs (fun k => S k ∨ k = w.heap.size ∨ k = w.heap.size + 1) G E X w1)
    (I : List α → World → Prop) (Ix : Code → List α → World → Prop) (hI : ∀ xs, Stays w.heap.size (I xs)) (hIx : ∀ c xs, Stays w.heap.size (Ix c xs)) (hG : ∀ pre x, Stays w.heap.size (G pre x)) (h0 : I [] w) (a₁ : α → Act)
    (hassign : ∀ (l : Nat) (x : α) (W : World) (K : Act → World → Prop), K (a₁ x) W →
      assign.wpIn (F.inRound l) (n - 1 - 1) P (Exit.then K (fun _ _ _ => False)) { tmps := (ps.zip (encs x)).foldl (fun t (p, v) => t.setIfInBounds p v) a.tmps, defers := [] } W)
    (hbody : ∀ (l : Nat) (pre : List α) (x : α) (W : World), I pre W → G pre x W → body.wpIn (F.inRound l) (n - 1 - 1) P (leftBy S I Ix (pre ++ [x]) W) (a₁ x) W)
    (hdone : ∀ (D : Nat) (xs : List α) (W : World), w.heap.size ≤ D → E xs → I xs W → W.heap[D]? = some (.deferred (some [])) → Q .normal { a with defers := { target := .collected D, args := #[] } :: a.defers } W)
    (hstop : ∀ (D : Nat) (c : Code) (pre : List α) (W : World), w.heap.size ≤ D → X pre → Ix c pre W → W.heap[D]? = some (.deferred (some [])) → c.wpIn F n P Q { a with defers := { target := .collected D, args := #[] } :: a.defers } W) :
    (Code.rangeFunc g ps assign body).wpIn F n P Q a w := by
  refine wpIn_rangeFunc ?_
  intro fn hfn
  rw [hro]
  obtain ⟨rec, hrec⟩ : ∃ rec : LoopState → Option Code → Loop, rec = fun st pe => { state := st, pending := pe, fn, tmps := a.tmps, params := ps, assign, body, defers := w.heap.size } := ⟨_, rfl⟩
  obtain ⟨W1, hW1⟩ : ∃ W1, (w.alloc (.deferred (some []))).alloc (.loop (rec .ready none)) = W1 := ⟨_, rfl⟩
  have hcW : Chg Nothing w W1 := hW1 ▸ ((Chg.refl Nothing w).alloc _).alloc _
  have hl0 : W1.heap[w.heap.size + 1]? = some (.loop (rec .ready none)) := by
    have := World.alloc_heap_new (w.alloc (.deferred (some []))) (.loop (rec .ready none)); rw [World.size_alloc, hW1] at this; exact this
  have hd0 : W1.heap[w.heap.size]? = some (.deferred (some [])) := by
    rw [← hW1]; exact (Below.heap_alloc _ _ _ (by simp)).trans (World.alloc_heap_new w _)
  refine ⟨w.heap.size + 1, [{ target := .collected w.heap.size, args := #[] }], W1, { target := .fn (.func gf) lb, args := #[.func (.yield (w.heap.size + 1)) #[] #[]] }, W1, gf,
    #[.func (.yield (w.heap.size + 1)) #[] #[]] ++ lb, W1, by rw [← hW1, hrec]; exact run_enterLoop_outer _ _ _ _ _, ?_, ?_, ?_, fun _ => h1, ?_⟩
  · simp only [resolve, hg]
    simp [go_sem]
  · intro f' hf'; simp [Target.leads] at hf'; subst hf'; exact hFg
  · simp [invoke, go_sem, eg]
  have keep : ∀ {W W' : World} {k : Nat} {o : Obj}, Chg S W W' → w.heap.size ≤ k → W.heap[k]? = some o → W'.heap[k]? = some o := fun h hk ho =>
    (h.block _ (Array.getElem?_eq_some_iff.1 ho).1 (fun e => by have := hS _ e; omega)).trans ho
  refine (hseq W1 hcW (by rw [← hW1]; simp only [World.size_alloc]; omega) (w.heap.size + 1)
    (fun pre W => I pre W ∧ W.heap[w.heap.size + 1]? = some (.loop (rec .ready none)) ∧ W.heap[w.heap.size]? = some (.deferred (some [])))
    (fun pre W => ∃ c, Ix c pre W ∧ W.heap[w.heap.size + 1]? = some (.loop (rec .done (some c))) ∧ W.heap[w.heap.size]? = some (.deferred (some []))) W1 (Chg.refl _ _)
    (fun pre A C hc ⟨h1, h2, h3⟩ => ⟨(hI pre).calm hc h1, (hc.block _ (Array.getElem?_eq_some_iff.1 h2).1 id).trans h2, (hc.block _ (Array.getElem?_eq_some_iff.1 h3).1 id).trans h3⟩)
    (fun pre A C hc ⟨c, h1, h2, h3⟩ => ⟨c, (hIx c pre).calm hc h1, (hc.block _ (Array.getElem?_eq_some_iff.1 h2).1 id).trans h2, (hc.block _ (Array.getElem?_eq_some_iff.1 h3).1 id).trans h3⟩)
    ?_ ⟨(hI []).calm hcW h0, hl0, hd0⟩).mono ?_
  · rintro pre x W - ⟨hi, hl, hk⟩ hgx
    have hlt : w.heap.size + 1 < W.heap.size := (Array.getElem?_eq_some_iff.1 hl).1
    have hy := run_yield (P := P) (args := encs x) hl (by rw [hrec]; exact hps x)
    rw [hrec] at hy
    refine ⟨fn, _, assign, body, hy, roundIn_of_wpIn hfn (hassign _ x W _ ⟨_, run_beginRound hl (by rw [hrec]), ?_⟩)⟩
    obtain ⟨Wb, hWb⟩ : ∃ Wb, W.putObj (w.heap.size + 1) (.loop { rec .ready none with state := .busy }) = Wb := ⟨_, rfl⟩
    have hcb : Chg (fun j => j = w.heap.size + 1) W Wb := hWb ▸ chg_put W _ _
    have hlb : Wb.heap[w.heap.size + 1]? = some (.loop { rec .ready none with state := .busy }) := hWb ▸ World.putObj_heap_same hlt
    have hkb : Wb.heap[w.heap.size]? = some (.deferred (some [])) := hWb ▸ (World.putObj_heap_other (by omega)).trans hk
    have hib : I pre Wb := hWb ▸ (hI pre).put (by omega) hl rfl hi
    have hgb : G pre x Wb := hWb ▸ (hG pre x).put (by omega) hl rfl hgx
    rw [hWb]
    refine wpIn_mono (hbody _ pre x Wb hib hgb) ?_
    have over : ∀ (jump : Option Code) (W3 : World), Chg S Wb W3 → ∃ W4, (Instr.endRound (w.heap.size + 1) jump).run P W3 = .ok (.bool jump.isNone) W4 ∧ (∀ J : World → Prop, Stays w.heap.size J → J W3 → J W4) ∧
        W4.heap[w.heap.size + 1]? = some (.loop (rec (if jump.isNone then .ready else .done) jump)) ∧ W4.heap[w.heap.size]? = some (.deferred (some [])) ∧ Chg (fun k => S k ∨ k = w.heap.size ∨ k = w.heap.size + 1) W W4 := fun jump W3 hc3 => by
      have hl3 := keep hc3 (by omega) hlb
      have hr := run_endRound (P := P) jump hl3
      refine ⟨_, hr, fun J hJ hj => hJ.put (by omega) hl3 rfl hj, ?_, (World.putObj_heap_other (by omega)).trans (keep hc3 (Nat.le_refl _) hkb), ?_⟩
      · rw [World.putObj_heap_same (Array.getElem?_eq_some_iff.1 hl3).1, hrec]
      · exact (hcb.mono (fun k _ e => .inr (.inr e))).trans ((hc3.mono (fun k _ e => .inl e)).trans ((chg_put W3 _ _).mono (fun k _ e => .inr (.inr e))))
    rintro e a3 W3 hp
    cases e with
    | normal =>
      obtain ⟨hc3, hi3⟩ := hp
      obtain ⟨W4, hr, hst, hl4, hk4, hc4⟩ := over none W3 hc3
      exact ⟨_, _, hr, .inl ⟨rfl, ⟨hst _ (hI _) hi3, hl4, hk4⟩, hc4⟩⟩
    | ret =>
      obtain ⟨hc3, hi3⟩ := hp
      obtain ⟨W4, hr, hst, hl4, hk4, hc4⟩ := over (some .ret) W3 hc3
      exact ⟨_, _, hr, .inr ⟨rfl, .ret, hst _ (hIx _ _) hi3, hl4, hk4⟩⟩
    | exit id =>
      obtain ⟨hc3, hi3⟩ := hp
      obtain ⟨W4, hr, hst, hl4, hk4, hc4⟩ := over (some (.exit id)) W3 hc3
      exact ⟨_, _, hr, .inr ⟨rfl, .exit id, hst _ (hIx _ _) hi3, hl4, hk4⟩⟩
    | goto t =>
      obtain ⟨hc3, hi3⟩ := hp
      obtain ⟨W4, hr, hst, hl4, hk4, hc4⟩ := over (some (.goto t)) W3 hc3
      exact ⟨_, _, hr, .inr ⟨rfl, .goto t, hst _ (hIx _ _) hi3, hl4, hk4⟩⟩
    | panic ch => exact hp.elim
    | outgrown => exact hp.elim
  · rintro e W2 ⟨⟨v, rfl⟩, (⟨xs, hE, hi, hl, hk⟩ | ⟨pre, hX, c, hi, hl, hk⟩)⟩
    · exact ⟨none, _, by have := run_endLoop (P := P) hl (by rw [hrec]; simp); rw [hrec] at this; exact this, hdone _ xs _ (Nat.le_refl _) hE ((hI xs).put (by omega) hl rfl hi) ((World.putObj_heap_other (by omega)).trans hk)⟩
    · exact ⟨some c, _, by have := run_endLoop (P := P) hl (by rw [hrec]; simp); rw [hrec] at this; exact this, hstop _ c pre _ (Nat.le_refl _) hX ((hIx c pre).put (by omega) hl rfl hi) ((World.putObj_heap_other (by omega)).trans hk)⟩
end
end Go.Proofs.Ytlpgbnbklddfaaa

/- Layer 11: one kind's transforms; the iterator over the kinds. -/
namespace Go.Proofs.Ytlpgbnbklddfaaa
open Go.RowKit
set_option linter.unusedVariables false
theorem placeF_bound (xs : List Cls) (c : Cls) (i : Nat) : 0 ≤ placeF xs c i ∧ placeF xs c i ≤ 1 := by unfold placeF; split <;> omega
theorem markF_bound (c : Cls) (s : ByteArray) (i : Nat) : 0 ≤ markF c s i ∧ markF c s i ≤ 1 := by unfold markF; split <;> omega
theorem mapF_getD (f : Nat → Int) (m j : Nat) (h : j < m) : ((List.range m).map fun i => f (0 + i)).getD j 0 = f j := by simp [h]
theorem URow.congr {w : World} {base : Nat} {A : Option Addr} {n c : Nat} {f f' : Nat → Int} (h : URow w base A n c f) (he : ∀ q, q < n → f q = f' q) : URow w base A n c f' := by
  unfold URow at h ⊢
  rwa [show ((List.range n).map fun i => Value.int .u64 (f' i)) = (List.range n).map fun i => Value.int .u64 (f i) from List.map_congr_left (fun q hq => by rw [he q (by simpa using hq)])]
/-- What the three transforms make of one kind. -/
theorem corrKind (xs : List Cls) (c : Cls) (s : ByteArray) (size : Int) (gP gM : Nat) (w : World) (m : Nat) (hm : xs.length = m) (h1 : 1 ≤ m) (h64 : m ≤ 64) (hs : s.size ≤ 100000000) (hbad : sizeBad m s.size size = false)
    (hP : FBlk w gP m (placeF xs c) 49) (hM : FBlk w gM s.size (markF c s) 49) :
    Calls Try.prog 44 #[.slice (some ⟨gP, 0, none⟩) m m, .slice (some ⟨gM, 0, none⟩) s.size s.size, .int .i64 size] w fun e w' => ∃ A' c', e = .returned (.tuple #[.slice A' (s.size + 1 - m) c', .int .i64 (countS m s.size size), .int .i64 0]) ∧ URow w' w.heap.size A' (s.size + 1 - m) c' (slideN m (placeF xs c) (markF c s)) ∧ Chg Nothing w w' := by
  by_cases hmn : m ≤ s.size
  · unfold sizeBad at hbad
    simp only [Bool.and_eq_false_iff, Bool.or_eq_false_iff, Bool.not_eq_false', decide_eq_false_iff_not] at hbad
    rcases hbad with hbad | ⟨hb1, hb2⟩
    · omega
    obtain ⟨M, hMl⟩ := Option.isSome_iff_exists.1 hb1
    obtain ⟨hM12, hsz⟩ := logS_some.1 hMl
    obtain ⟨S, hS⟩ : ∃ S : Nat, size = S := ⟨size.toNat, by have : (0 : Int) ≤ 2 ^ M := Int.le_of_lt (Int.pow_pos (by decide)); omega⟩
    subst hS
    have hS2 : S = 2 ^ M := by have : (S : Int) = ((2 ^ M : Nat) : Int) := by rw [hsz, Int.natCast_pow]; rfl
                               omega
    refine (correlate_any (fun k => k = gP) (fun k => k = gM) (some ⟨gP, 0, none⟩) (some ⟨gM, 0, none⟩) m m s.size s.size M S _ _ 1 1 w (hP.els 0 m m (by omega) (Nat.le_refl _) (by omega)) (hM.els 0 s.size s.size (by omega) (Nat.le_refl _) (by omega)) (fun k hk => hk ▸ hP.lt) (fun k hk => hk ▸ hM.lt)
      h1 hmn (by omega) hM12 hS2 (by omega) (fun z hz => by obtain ⟨i, -, rfl⟩ := List.mem_map.1 hz; exact placeF_bound xs c _) (fun z hz => by obtain ⟨i, -, rfl⟩ := List.mem_map.1 hz; exact markF_bound c s _) (by decide) (by decide) (by decide) (by omega)).mono ?_
    rintro e w' ⟨A', c', rfl, hR, hc⟩
    rw [show s.size - m + 1 = s.size + 1 - m from by omega] at hR ⊢
    refine ⟨A', c', rfl, hR.congr (fun q hq => ?_), hc⟩
    unfold slideN
    refine sumN_congr fun u hu => ?_
    dsimp only
    rw [mapF_getD _ _ _ hu, mapF_getD _ _ _ (by omega)]
  · have hsl : slidesB m s.size = false := by unfold slidesB; simp; omega
    refine (correlate_none (some ⟨gP, 0, none⟩) (some ⟨gM, 0, none⟩) m m s.size s.size size w hsl).mono ?_
    rintro e w' ⟨rfl, hc⟩
    have hcs : countS m s.size size = 0 := by
      unfold countS
      rw [show min (s.size : Int) 1099511627776 = s.size from by omega, hsl]
      rfl
    rw [show s.size + 1 - m = 0 from by omega, hcs]
    exact ⟨none, 0, rfl, World.ownsRow_nil _ _ _ _, hc⟩
/-! ### The iterator -/
abbrev KE := Option Addr × Nat
def kEnc (N : Nat) (cs : Int) (x : KE) : Array Value := #[.slice x.1 N x.2, .int .i64 cs]
def kTell (xs : List Cls) (s : ByteArray) (lo N : Nat) (pre : List KE) (x : KE) (W : World) : Prop := pre.length < (kindsL xs).length ∧ URow W lo x.1 N x.2 (slideN xs.length (placeF xs ((kindsL xs).getD pre.length 0)) (markF ((kindsL xs).getD pre.length 0) s))
/-- The boxes that the iterator reads. -/
structure KBoxes (w : World) (lb tb sb : Nat) (A : Option Addr) (n c : Nat) (K : Int) (s : ByteArray) (size : Int) : Prop where
  leaf : Blk w lb #[.slice A n c, .int .i64 K] 24
  text : Blk w tb #[.string s] 9
  size : Blk w sb #[.int .i64 size] 3
theorem KBoxes.chg {S : Nat → Prop} {w w' : World} {lb tb sb : Nat} {A : Option Addr} {n c : Nat} {K : Int} {s : ByteArray} {size : Int} (h : KBoxes w lb tb sb A n c K s size) (hc : Chg S w w') (h1 : ¬ S lb) (h2 : ¬ S tb) (h3 : ¬ S sb) : KBoxes w' lb tb sb A n c K s size := ⟨h.leaf.chg hc h1, h.text.chg hc h2, h.size.chg hc h3⟩
def KdInv (S : Nat → Prop) (w2 : World) (NK : Nat) (J : List KE → World → Prop) (iv : Value) (wr : World) : Prop := ∃ (k : Nat) (pre : List KE), k ≤ NK ∧ iv = .int .i64 k ∧ pre.length = k ∧ Hid (J pre wr) ∧ Chg S w2 wr
end Go.Proofs.Ytlpgbnbklddfaaa

/- Blocks of ints; counting by kinds: the numbers. -/
namespace Go.Proofs.Ytlpgbnbklddfaaa
open Go.RowKit
set_option linter.unusedVariables false
/-- A block of n ints reads as a function. -/
def IBlk (w : World) (g n : Nat) (f : Nat → Int) : Prop := Blk w g ((List.range n).map fun q => Value.int .i64 (f q)).toArray 3
theorem IBlk.cell {w : World} {g n : Nat} {f : Nat → Int} (h : IBlk w g n f) {q : Nat} (hq : q < n) : w.cell? ⟨g, q, none⟩ = some (.int .i64 (f q)) := Blk.cell h q (by simp [hq])
theorem IBlk.free {w : World} {g n : Nat} {f : Nat → Int} (h : IBlk w g n f) (q : Nat) : w.frozen? ⟨g, q, none⟩ = false := Blk.free h q
theorem IBlk.lt {w : World} {g n : Nat} {f : Nat → Int} (h : IBlk w g n f) : g < w.heap.size := Blk.lt h
theorem IBlk.chg {S : Nat → Prop} {w w' : World} {g n : Nat} {f : Nat → Int} (h : IBlk w g n f) (hc : Chg S w w') (hn : ¬ S g) : IBlk w' g n f := Blk.chg h hc hn
theorem IBlk.congr {w : World} {g n : Nat} {f f' : Nat → Int} (h : IBlk w g n f) (he : ∀ q, q < n → f q = f' q) : IBlk w g n f' := by
  unfold IBlk at h ⊢
  rwa [show ((List.range n).map fun q => Value.int .i64 (f' q)) = ((List.range n).map fun q => Value.int .i64 (f q)) from List.map_congr_left (fun q hq => by rw [he q (by simpa using hq)])]
theorem IBlk.set {w : World} {g n : Nat} {f : Nat → Int} (h : IBlk w g n f) (q : Nat) (v : Int) : IBlk (w.setCell ⟨g, q, none⟩ (.int .i64 v)) g n (fun x => if x = q then v else f x) := by
  have h1 := Blk.set h q (.int .i64 v)
  unfold IBlk
  rw [show ((List.range n).map fun x => Value.int .i64 (if x = q then v else f x)).toArray = (((List.range n).map fun x => Value.int .i64 (f x)).toArray).setIfInBounds q (.int .i64 v) from by
    apply Array.ext
    · simp
    · intro i h1 h2
      simp at h1
      rw [Array.getElem_setIfInBounds (by simpa using h1)]
      by_cases hq : q = i
      · subst hq; simp
      · rw [if_neg hq]; simp; intro e; exact absurd e.symm hq]
  exact h1
theorem make_int (n : Nat) (hn : n ≤ 1000000000) (w : World) : (Instr.makeSlice 34 (.int .i64 (n : Int)) (.int .i64 (n : Int))).run Try.prog w = .ok (.slice (some ⟨w.heap.size, 0, none⟩) n n) (w.alloc (.cells (madeCells #[.int .i64 0] n) 3)) :=
  Go.run_make_row' _ _ (.int .i64 0) 8 Try.underlying34 infoInt rfl .i64 .i64 n (by omega) (by omega) w
theorem IBlk.made (w : World) (n : Nat) : IBlk (w.alloc (.cells (madeCells #[.int .i64 0] n) 3)) w.heap.size n (fun _ => 0) := by
  have h := Blk.new w (madeCells #[.int .i64 0] n) 3
  unfold IBlk
  rwa [show ((List.range n).map fun _ => Value.int .i64 0).toArray = madeCells #[.int .i64 0] n from by
    apply Array.ext'
    rw [toList_madeCells_one]
    simp [List.map_const']]
/-- The row that a block of one's own is. -/
theorem IBlk.own {w : World} {g n base : Nat} {f : Nat → Int} (h : IBlk w g n f) (hb : base ≤ g) (hn : n ≤ 1000000000) : IRow w base (some ⟨g, 0, none⟩) n n ((List.range n).map f) := by
  refine ⟨by simp, .inr ⟨g, n, _, rfl, hb, h, Nat.le_refl _, by unfold maxLen; omega, by simp, ?_⟩⟩
  rw [List.take_of_length_le (by simp)]; simp [Function.comp_def]
theorem sumL_take (l : List Cls) (f : Cls → Int) : ∀ k, k ≤ l.length → sumN k (fun j => f (l.getD j 0)) = sumL (l.take k) f
  | 0, _ => rfl
  | k + 1, h => by
    rw [sumN_succ, sumL_take l f k (by omega), List.take_succ_eq_append_getElem (by omega : k < l.length), sumL_append, sumL_cons, sumL_nil]
    simp [List.getD, show k < l.length from by omega]
/-- What one kind tells at a place; what k of them tell. -/
def kHit (xs : List Cls) (s : ByteArray) (k i : Nat) : Int := slideN xs.length (placeF xs ((kindsL xs).getD k 0)) (markF ((kindsL xs).getD k 0) s) i
def kSum (xs : List Cls) (s : ByteArray) (k i : Nat) : Int := sumN k (fun j => kHit xs s j i)
theorem kSum_succ (xs : List Cls) (s : ByteArray) (k i : Nat) : kSum xs s (k + 1) i = kSum xs s k i + kHit xs s k i := rfl
theorem kSum_all (xs : List Cls) (s : ByteArray) (i : Nat) : boundN xs - kSum xs s (kindsL xs).length i = missN xs s i := by
  have h := kinds_law xs s i
  have h2 := sumL_take (kindsL xs) (fun c => slideN xs.length (placeF xs c) (markF c s) i) (kindsL xs).length (Nat.le_refl _)
  rw [List.take_length] at h2
  have h3 : kSum xs s (kindsL xs).length i = sumL (kindsL xs) (fun c => slideN xs.length (placeF xs c) (markF c s) i) := h2
  omega
theorem kHit_bound (xs : List Cls) (s : ByteArray) (k i : Nat) (h : xs.length ≤ 64) : 0 ≤ kHit xs s k i ∧ kHit xs s k i ≤ 64 := by
  unfold kHit slideN
  refine ⟨sumN_nonneg _ _ fun u _ => Int.mul_nonneg (placeF_bound _ _ _).1 (markF_bound _ _ _).1, ?_⟩
  have := sumN_le xs.length (fun u => placeF xs ((kindsL xs).getD k 0) u * markF ((kindsL xs).getD k 0) s (i + u)) 1 (fun u _ => by
    have h1 := placeF_bound xs ((kindsL xs).getD k 0) u
    have h2 := markF_bound ((kindsL xs).getD k 0) s (i + u)
    exact Int.le_trans (Int.mul_le_mul h1.2 h2.2 h2.1 (by decide)) (by decide))
  omega
theorem kSum_bound (xs : List Cls) (s : ByteArray) (i : Nat) (h : xs.length ≤ 64) : ∀ k, 0 ≤ kSum xs s k i ∧ kSum xs s k i ≤ 64 * k
  | 0 => ⟨Int.le_refl _, Int.le_refl _⟩
  | k + 1 => by
    have h1 := kSum_bound xs s i h k
    have h2 := kHit_bound xs s k i h
    rw [kSum_succ]; omega
theorem boundN_bound (xs : List Cls) : 0 ≤ boundN xs ∧ boundN xs ≤ xs.length := by
  have := whereTo_len xs fullC xs.length
  unfold boundN; omega
end Go.Proofs.Ytlpgbnbklddfaaa

/- Layer 11: the program's Counts. -/
namespace Go.Proofs.Ytlpgbnbklddfaaa
open Go.RowKit Go.Shelf
attribute [local go_sem] Oper.semAt_some
set_option linter.unusedVariables false
def two (a b : Nat) : Nat → Prop := fun k => k = a ∨ k = b
def CoI (W0 : World) (gO bA N : Nat) (xs : List Cls) (s : ByteArray) (B cs : Int) (pre : List KE) (W : World) : Prop := IBlk W gO N (fun i => B - kSum xs s pre.length i) ∧ Blk W bA #[.int .i64 ((pre.length : Int) * cs)] 3 ∧ Chg (two gO bA) W0 W
theorem CoI_stays (W0 : World) (gO bA N : Nat) (xs : List Cls) (s : ByteArray) (B cs : Int) (h1 : gO < W0.heap.size) (h2 : bA < W0.heap.size) (pre : List KE) : Stays W0.heap.size (CoI W0 gO bA N xs s B cs pre) := fun X Y T hb hc ⟨i1, i2, i3⟩ =>
  ⟨i1.chg hc (fun e => by have := (hb _ e).1; omega), i2.chg hc (fun e => by have := (hb _ e).1; omega), i3.then hc (fun i hi e => by have := (hb _ e).1; omega)⟩
theorem kTell_stays (xs : List Cls) (s : ByteArray) (lo N : Nat) (pre : List KE) (x : KE) (B : Nat) : Stays B (kTell xs s lo N pre x) := fun X Y T hb hc ⟨i1, i2⟩ =>
  ⟨i1, own_chg i2 hc (fun k hk e => by
    obtain ⟨-, o, ho, hcc⟩ := hb _ e
    obtain ⟨o', ho', hcc'⟩ := own_cells i2 k hk
    rw [ho] at ho'
    obtain rfl := Option.some.inj ho'
    rw [hcc] at hcc'; cases hcc')⟩
def CoB (wb : World) (gO N : Nat) (f v : Nat → Int) (iv : Value) (wr : World) : Prop := ∃ i : Nat, i ≤ N ∧ iv = .int .i64 i ∧ IBlk wr gO N (fun q => if q < i then f q - v q else f q) ∧ Chg (One gO) wb wr
theorem cob_step {f v : Nat → Int} {i N : Nat} (q : Nat) (hq : q < N) : (if q = i then f i - v i else (if q < i then f q - v q else f q)) = if q < i + 1 then f q - v q else f q := by
  by_cases h : q = i
  · have h3 : q < i + 1 := by omega
    rw [if_pos h, if_pos h3, h]
  · rw [if_neg h]
    by_cases h2 : q < i
    · have h3 : q < i + 1 := by omega
      rw [if_pos h2, if_pos h3]
    · have h3 : ¬ q < i + 1 := by omega
      rw [if_neg h2, if_neg h3]
theorem URow.at_ {w : World} {base : Nat} {A : Option Addr} {n c : Nat} {f : Nat → Int} (h : URow w base A n c f) {k : Nat} (hk : k < n) : ∃ g o, A = some ⟨g, o, none⟩ ∧ g < w.heap.size ∧ w.cell? ⟨g, o + k, none⟩ = some (.int .u64 (f k)) := by
  have hE := ElsAt.of_own (enc := Value.int .u64) (d := 0) (xs := (List.range n).map f) (by rw [List.map_map]; exact h)
  obtain ⟨g, o, e, -, hlt, hc⟩ := hE.at_ hk
  refine ⟨g, o, e, hlt, hc.trans ?_⟩
  simp [hk]
theorem URow.nc {w : World} {base : Nat} {A : Option Addr} {n c : Nat} {f : Nat → Int} (h : URow w base A n c f) : n ≤ c ∧ c ≤ 9223372036854775807 := by
  have hE := ElsAt.of_own (enc := Value.int .u64) (d := 0) (xs := (List.range n).map f) (by rw [List.map_map]; exact h)
  exact ⟨hE.2.1, hE.2.2.1⟩
def CoA (w2 : World) (gO N : Nat) (B : Int) (iv : Value) (wr : World) : Prop := ∃ i : Nat, i ≤ N ∧ iv = .int .i64 i ∧ IBlk wr gO N (fun q => if q < i then B else 0) ∧ Chg (One gO) w2 wr
end Go.Proofs.Ytlpgbnbklddfaaa

/- Layer 11: the program's Counts, Find, at every input. -/
namespace Go.Proofs.Ytlpgbnbklddfaaa
open Go.RowKit
set_option linter.unusedVariables false
/-! ### few -/
end Go.Proofs.Ytlpgbnbklddfaaa
