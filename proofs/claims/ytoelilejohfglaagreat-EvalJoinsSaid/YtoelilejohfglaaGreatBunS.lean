/- Joined texts: Rng SmbK SmbL SmbM SmbN. -/
import Derived.Test.YtoelilejohfglaaGreatBunQ
import Derived.Test.YtoelilejohfglaaGreatBunR
import Derived.Deep.RegionHeld3
import Derived.Shelf.Abstract
import Derived.Shelf.RegionOpen
set_option maxHeartbeats 16000000
set_option maxRecDepth 100000
namespace Go.Proofs.YtoelilejohfglaaGreat
open Go.RowKit
set_option linter.unusedVariables false
set_option linter.unusedSimpArgs false
section
variable {P : Program} {F : Fence} {n : Nat} {α : Type}
def Book (B : Nat) (T : Nat → Prop) (A : World) : Prop := ∀ k, T k → B ≤ k ∧ ∃ o : Obj, A.heap[k]? = some o ∧ o.isCells = false
def Stays (B : Nat) (I : World → Prop) : Prop := ∀ (A C : World) (T : Nat → Prop), Book B T A → Chg T A C → I A → I C
def Gives (F : Fence) (n : Nat) (P : Program) (g : Nat) (lb : Array Value) (encs : α → Array Value) (S : Nat → Prop) (G : List α → α → World → Prop) (E X : List α → Prop) (w : World) : Prop :=
 ∀ (l : Nat) (J Jx : List α → World → Prop) (W : World), Chg Nothing w W →
  (∀ pre A C, Chg Nothing A C → J pre A → J pre C) → (∀ pre A C, Chg Nothing A C → Jx pre A → Jx pre C) →
  (∀ pre x W1, Chg S w W1 → J pre W1 → G pre x W1 → YieldAt F (n - 1) P l (encs x) W1 fun e W' =>
   (e = .returned (.bool true) ∧ J (pre ++ [x]) W' ∧ Chg S W1 W') ∨ (e = .returned (.bool false) ∧ Jx (pre ++ [x]) W')) →
  J [] W →
  CallsIn F n P g (#[.func (.yield l) #[] #[]] ++ lb) W fun e W' => (∃ v, e = .returned v) ∧ ((∃ xs, E xs ∧ J xs W') ∨ (∃ pre, X pre ∧ Jx pre W'))
def leftBy (S : Nat → Prop) (I : List α → World → Prop) (Ix : Code → List α → World → Prop) (xs : List α) (W : World) : Exit → Act → World → Prop
 | .normal, _, W' => Chg S W W' ∧ I xs W'
 | .ret, _, W' => Chg S W W' ∧ Ix .ret xs W'
 | .exit id, _, W' => Chg S W W' ∧ Ix (.exit id) xs W'
 | .goto t, _, W' => Chg S W W' ∧ Ix (.goto t) xs W'
 | .panic _, _, _ => False
 | .outgrown, _, _ => False
theorem Chg.up {S : Nat → Prop} {a b : World} (h : Chg Nothing a b) : Chg S a b := h.mono (fun _ _ h => (show False from h).elim)
theorem chg_put (W : World) (k : Nat) (o : Obj) : Chg (fun j => j = k) W (W.putObj k o) := Chg.of_grownBy (grownBy_putObj' W k o) (fun _ h _ => by cases h; rfl)
theorem book_one {B k : Nat} {W : World} {o : Obj} (hB : B ≤ k) (h : W.heap[k]? = some o) (ho : o.isCells = false) : Book B (fun j => j = k) W := fun _ e => e ▸ ⟨hB, o, h, ho⟩
theorem Stays.put {B k : Nat} {I : World → Prop} (h : Stays B I) {W : World} {o o' : Obj} (hB : B ≤ k) (hk : W.heap[k]? = some o) (ho : o.isCells = false) (hi : I W) : I (W.putObj k o') := h _ _ _ (book_one hB hk ho) (chg_put W k o') hi
theorem Stays.calm {B : Nat} {I : World → Prop} (h : Stays B I) {W W' : World} (hc : Chg Nothing W W') (hi : I W) : I W' := h _ _ Nothing (fun _ h => h.elim) hc hi
theorem wpIn_range_gives {g : Operand} {ps : Array Tmp} {assign body : Code} {Q : Exit → Act → World → Prop} {a : Act} {w : World}
  (hro : F.round = none) (h1 : 1 ≤ n) {gf : Nat} {lb : Array Value} (hg : a.eval g = .func (.func gf) #[] lb) (hFg : F.fn gf) (eg : ∀ args w, (callFunc gf args).run P w = .ok (.enter gf args) w)
  {encs : α → Array Value} (hps : ∀ x, (encs x).size = ps.size) {S : Nat → Prop} {G : List α → α → World → Prop} {E X : List α → Prop} (hS : ∀ k, S k → k < w.heap.size)
  (hseq : ∀ w1, Chg Nothing w w1 → w.heap.size + 2 ≤ w1.heap.size → Gives F (n - 1) P gf lb encs (fun k => S k ∨ k = w.heap.size ∨ k = w.heap.size + 1) G E X w1)
  (I : List α → World → Prop) (Ix : Code → List α → World → Prop) (hI : ∀ xs, Stays w.heap.size (I xs)) (hIx : ∀ c xs, Stays w.heap.size (Ix c xs)) (hG : ∀ pre x, Stays w.heap.size (G pre x)) (h0 : I [] w) (a₁ : α → Act)
  (hassign : ∀ (l : Nat) (x : α) (W : World) (K : Act → World → Prop), K (a₁ x) W →
   assign.wpIn (F.inRound l) (n - 1 - 1) P (Exit.then K (fun _ _ _ => False)) { tmps := (ps.zip (encs x)).foldl (fun t (p, v) => t.setIfInBounds p v) a.tmps, defers := [] } W)
  (hbody : ∀ (l : Nat) (pre : List α) (x : α) (W : World), I pre W → G pre x W → body.wpIn (F.inRound l) (n - 1 - 1) P (leftBy S I Ix (pre ++ [x]) W) (a₁ x) W)
  (hdone : ∀ (D : Nat) (xs : List α) (W : World), w.heap.size ≤ D → E xs → I xs W → W.heap[D]? = some (.deferred (some [])) → Q .normal { a with defers := { target := .collected D, args := #[] } :: a.defers } W)
  (hstop : ∀ (D : Nat) (c : Code) (pre : List α) (W : World), w.heap.size ≤ D → X pre → Ix c pre W → W.heap[D]? = some (.deferred (some [])) → c.wpIn F n P Q { a with defers := { target := .collected D, args := #[] } :: a.defers } W) :
  (Code.rangeFunc g ps assign body).wpIn F n P Q a w := by
 refine wpIn_rangeFunc ?_
 intro fn hfn
 rw [hro]
 obtain ⟨rec, hrec⟩ : ∃ rec : LoopState → Option Code → Loop, rec = fun st pe => { state := st, pending := pe, fn, tmps := a.tmps, params := ps, assign, body, defers := w.heap.size } := ⟨_, rfl⟩
 obtain ⟨W1, hW1⟩ : ∃ W1, (w.alloc (.deferred (some []))).alloc (.loop (rec .ready none)) = W1 := ⟨_, rfl⟩
 have hcW : Chg Nothing w W1 := hW1 ▸ ((Chg.refl Nothing w).alloc _).alloc _
 have hl0 : W1.heap[w.heap.size + 1]? = some (.loop (rec .ready none)) := by
  have := World.alloc_heap_new (w.alloc (.deferred (some []))) (.loop (rec .ready none)); rw [World.size_alloc, hW1] at this; exact this
 have hd0 : W1.heap[w.heap.size]? = some (.deferred (some [])) := by
  rw [← hW1]; exact (Below.heap_alloc _ _ _ (by simp)).trans (World.alloc_heap_new w _)
 refine ⟨w.heap.size + 1, [{ target := .collected w.heap.size, args := #[] }], W1, { target := .fn (.func gf) lb, args := #[.func (.yield (w.heap.size + 1)) #[] #[]] }, W1, gf,
  #[.func (.yield (w.heap.size + 1)) #[] #[]] ++ lb, W1, by rw [← hW1, hrec]; exact run_enterLoop_outer _ _ _ _ _, ?_, ?_, ?_, fun _ => h1, ?_⟩
 ·simp only [resolve, hg]
  simp [go_sem]
 ·intro f' hf'; simp [Target.leads] at hf'; subst hf'; exact hFg
 ·simp [invoke, go_sem, eg]
 have keep : ∀ {W W' : World} {k : Nat} {o : Obj}, Chg S W W' → w.heap.size ≤ k → W.heap[k]? = some o → W'.heap[k]? = some o := fun h hk ho =>
  (h.block _ (Array.getElem?_eq_some_iff.1 ho).1 (fun e => by have := hS _ e; omega)).trans ho
 refine (hseq W1 hcW (by rw [← hW1]; simp only [World.size_alloc]; omega) (w.heap.size + 1)
  (fun pre W => I pre W ∧ W.heap[w.heap.size + 1]? = some (.loop (rec .ready none)) ∧ W.heap[w.heap.size]? = some (.deferred (some [])))
  (fun pre W => ∃ c, Ix c pre W ∧ W.heap[w.heap.size + 1]? = some (.loop (rec .done (some c))) ∧ W.heap[w.heap.size]? = some (.deferred (some []))) W1 (Chg.refl _ _)
  (fun pre A C hc ⟨h1, h2, h3⟩ => ⟨(hI pre).calm hc h1, (hc.block _ (Array.getElem?_eq_some_iff.1 h2).1 id).trans h2, (hc.block _ (Array.getElem?_eq_some_iff.1 h3).1 id).trans h3⟩)
  (fun pre A C hc ⟨c, h1, h2, h3⟩ => ⟨c, (hIx c pre).calm hc h1, (hc.block _ (Array.getElem?_eq_some_iff.1 h2).1 id).trans h2, (hc.block _ (Array.getElem?_eq_some_iff.1 h3).1 id).trans h3⟩)
  ?_ ⟨(hI []).calm hcW h0, hl0, hd0⟩).mono ?_
 ·rintro pre x W - ⟨hi, hl, hk⟩ hgx
  have hlt : w.heap.size + 1 < W.heap.size := (Array.getElem?_eq_some_iff.1 hl).1
  have hy := run_yield (P := P) (args := encs x) hl (by rw [hrec]; exact hps x)
  rw [hrec] at hy
  refine ⟨fn, _, assign, body, hy, roundIn_of_wpIn hfn (hassign _ x W _ ⟨_, run_beginRound hl (by rw [hrec]), ?_⟩)⟩
  obtain ⟨Wb, hWb⟩ : ∃ Wb, W.putObj (w.heap.size + 1) (.loop { rec .ready none with state := .busy }) = Wb := ⟨_, rfl⟩
  have hcb : Chg (fun j => j = w.heap.size + 1) W Wb := hWb ▸ chg_put W _ _
  have hlb : Wb.heap[w.heap.size + 1]? = some (.loop { rec .ready none with state := .busy }) := hWb ▸ World.putObj_heap_same hlt
  have hkb : Wb.heap[w.heap.size]? = some (.deferred (some [])) := hWb ▸ (World.putObj_heap_other (by omega)).trans hk
  have hib : I pre Wb := hWb ▸ (hI pre).put (by omega) hl rfl hi
  have hgb : G pre x Wb := hWb ▸ (hG pre x).put (by omega) hl rfl hgx
  rw [hWb]
  refine wpIn_mono (hbody _ pre x Wb hib hgb) ?_
  have over : ∀ (jump : Option Code) (W3 : World), Chg S Wb W3 → ∃ W4, (Instr.endRound (w.heap.size + 1) jump).run P W3 = .ok (.bool jump.isNone) W4 ∧ (∀ J : World → Prop, Stays w.heap.size J → J W3 → J W4) ∧
    W4.heap[w.heap.size + 1]? = some (.loop (rec (if jump.isNone then .ready else .done) jump)) ∧ W4.heap[w.heap.size]? = some (.deferred (some [])) ∧ Chg (fun k => S k ∨ k = w.heap.size ∨ k = w.heap.size + 1) W W4 := fun jump W3 hc3 => by
   have hl3 := keep hc3 (by omega) hlb
   have hr := run_endRound (P := P) jump hl3
   refine ⟨_, hr, fun J hJ hj => hJ.put (by omega) hl3 rfl hj, ?_, (World.putObj_heap_other (by omega)).trans (keep hc3 (Nat.le_refl _) hkb), ?_⟩
   ·rw [World.putObj_heap_same (Array.getElem?_eq_some_iff.1 hl3).1, hrec]
   ·exact (hcb.mono (fun k _ e => .inr (.inr e))).trans ((hc3.mono (fun k _ e => .inl e)).trans ((chg_put W3 _ _).mono (fun k _ e => .inr (.inr e))))
  rintro e a3 W3 hp
  cases e with
  | normal =>
   obtain ⟨hc3, hi3⟩ := hp
   obtain ⟨W4, hr, hst, hl4, hk4, hc4⟩ := over none W3 hc3
   exact ⟨_, _, hr, .inl ⟨rfl, ⟨hst _ (hI _) hi3, hl4, hk4⟩, hc4⟩⟩
  | ret =>
   obtain ⟨hc3, hi3⟩ := hp
   obtain ⟨W4, hr, hst, hl4, hk4, hc4⟩ := over (some .ret) W3 hc3
   exact ⟨_, _, hr, .inr ⟨rfl, .ret, hst _ (hIx _ _) hi3, hl4, hk4⟩⟩
  | exit id =>
   obtain ⟨hc3, hi3⟩ := hp
   obtain ⟨W4, hr, hst, hl4, hk4, hc4⟩ := over (some (.exit id)) W3 hc3
   exact ⟨_, _, hr, .inr ⟨rfl, .exit id, hst _ (hIx _ _) hi3, hl4, hk4⟩⟩
  | goto t =>
   obtain ⟨hc3, hi3⟩ := hp
   obtain ⟨W4, hr, hst, hl4, hk4, hc4⟩ := over (some (.goto t)) W3 hc3
   exact ⟨_, _, hr, .inr ⟨rfl, .goto t, hst _ (hIx _ _) hi3, hl4, hk4⟩⟩
  | panic ch => exact hp.elim
  | outgrown => exact hp.elim
 ·rintro e W2 ⟨⟨v, rfl⟩, (⟨xs, hE, hi, hl, hk⟩ | ⟨pre, hX, c, hi, hl, hk⟩)⟩
  ·exact ⟨none, _, by have := run_endLoop (P := P) hl (by rw [hrec]; simp); rw [hrec] at this; exact this, hdone _ xs _ (Nat.le_refl _) hE ((hI xs).put (by omega) hl rfl hi) ((World.putObj_heap_other (by omega)).trans hk)⟩
  ·exact ⟨some c, _, by have := run_endLoop (P := P) hl (by rw [hrec]; simp); rw [hrec] at this; exact this, hstop _ c pre _ (Nat.le_refl _) hX ((hIx c pre).put (by omega) hl rfl hi) ((World.putObj_heap_other (by omega)).trans hk)⟩
end
end Go.Proofs.YtoelilejohfglaaGreat
namespace Go.Proofs.YtoelilejohfglaaGreat
open Go.RowKit
set_option linter.unusedVariables false
set_option linter.unusedSimpArgs false
theorem placeF_bound (xs : List Cls) (c : Cls) (i : Nat) : 0 ≤ placeF xs c i ∧ placeF xs c i ≤ 1 := by unfold placeF; split <;> omega
theorem markF_bound (c : Cls) (s : ByteArray) (i : Nat) : 0 ≤ markF c s i ∧ markF c s i ≤ 1 := by unfold markF; split <;> omega
theorem mapF_getD (f : Nat → Int) (m j : Nat) (h : j < m) : ((List.range m).map fun i => f (0 + i)).getD j 0 = f j := by simp [h]
theorem URow.congr {w : World} {base : Nat} {A : Option Addr} {n c : Nat} {f f' : Nat → Int} (h : URow w base A n c f) (he : ∀ q, q < n → f q = f' q) : URow w base A n c f' := by
 unfold URow at h ⊢
 rwa [show ((List.range n).map fun i => Value.int .u64 (f' i)) = (List.range n).map fun i => Value.int .u64 (f i) from List.map_congr_left (fun q hq => by rw [he q (by simpa using hq)])]
theorem corrKind (xs : List Cls) (c : Cls) (s : ByteArray) (size : Int) (gP gM : Nat) (w : World) (m : Nat) (hm : xs.length = m) (h1 : 1 ≤ m) (h64 : m ≤ 64) (hs : s.size ≤ 100000000) (hbad : sizeBad m s.size size = false)
    (hP : FBlk w gP m (placeF xs c) 82) (hM : FBlk w gM s.size (markF c s) 82) :
    Calls Tryz.prog 150 #[.slice (some ⟨gP, 0, none⟩) m m, .slice (some ⟨gM, 0, none⟩) s.size s.size, .int .i64 size] w fun e w' => ∃ A' c', e = .returned (.tuple #[.slice A' (s.size + 1 - m) c', .int .i64 (countS m s.size size), .int .i64 0]) ∧ URow w' w.heap.size A' (s.size + 1 - m) c' (slideN m (placeF xs c) (markF c s)) ∧ Chg Nothing w w' := by
  by_cases hmn : m ≤ s.size
  · unfold sizeBad at hbad
    simp only [Bool.and_eq_false_iff, Bool.or_eq_false_iff, Bool.not_eq_false', decide_eq_false_iff_not] at hbad
    rcases hbad with hbad | ⟨hb1, hb2⟩
    · omega
    obtain ⟨M, hMl⟩ := Option.isSome_iff_exists.1 hb1
    obtain ⟨hM12, hsz⟩ := logS_some.1 hMl
    obtain ⟨S, hS⟩ : ∃ S : Nat, size = S := ⟨size.toNat, by have : (0 : Int) ≤ 2 ^ M := Int.le_of_lt (Int.pow_pos (by decide)); omega⟩
    subst hS
    have hS2 : S = 2 ^ M := by have : (S : Int) = ((2 ^ M : Nat) : Int) := by rw [hsz, Int.natCast_pow]; rfl
                               omega
    refine (correlate_any (fun k => k = gP) (fun k => k = gM) (some ⟨gP, 0, none⟩) (some ⟨gM, 0, none⟩) m m s.size s.size M S _ _ 1 1 w (hP.els 0 m m (by omega) (Nat.le_refl _) (by omega)) (hM.els 0 s.size s.size (by omega) (Nat.le_refl _) (by omega)) (fun k hk => hk ▸ hP.lt) (fun k hk => hk ▸ hM.lt)
      h1 hmn (by omega) hM12 hS2 (by omega) (fun z hz => by obtain ⟨i, -, rfl⟩ := List.mem_map.1 hz; exact placeF_bound xs c _) (fun z hz => by obtain ⟨i, -, rfl⟩ := List.mem_map.1 hz; exact markF_bound c s _) (by decide) (by decide) (by decide) (by omega)).mono ?_
    rintro e w' ⟨A', c', rfl, hR, hc⟩
    rw [show s.size - m + 1 = s.size + 1 - m from by omega] at hR ⊢
    refine ⟨A', c', rfl, hR.congr (fun q hq => ?_), hc⟩
    unfold slideN
    refine sumN_congr fun u hu => ?_
    dsimp only
    rw [mapF_getD _ _ _ hu, mapF_getD _ _ _ (by omega)]
  · have hsl : slidesB m s.size = false := by unfold slidesB; simp; omega
    refine (correlate_none (some ⟨gP, 0, none⟩) (some ⟨gM, 0, none⟩) m m s.size s.size size w hsl).mono ?_
    rintro e w' ⟨rfl, hc⟩
    have hcs : countS m s.size size = 0 := by
      unfold countS
      rw [show min (s.size : Int) 1099511627776 = s.size from by omega, hsl]
      rfl
    rw [show s.size + 1 - m = 0 from by omega, hcs]
    exact ⟨none, 0, rfl, World.ownsRow_nil _ _ _ _, hc⟩
abbrev KE := Option Addr × Nat
def kEnc (N : Nat) (cs : Int) (x : KE) : Array Value := #[.slice x.1 N x.2, .int .i64 cs]
def kTell (xs : List Cls) (s : ByteArray) (lo N : Nat) (pre : List KE) (x : KE) (W : World) : Prop := pre.length < (kindsL xs).length ∧ URow W lo x.1 N x.2 (slideN xs.length (placeF xs ((kindsL xs).getD pre.length 0)) (markF ((kindsL xs).getD pre.length 0) s))
structure KBoxes (w : World) (lb tb sb : Nat) (A : Option Addr) (n c : Nat) (K : Int) (s : ByteArray) (size : Int) : Prop where
 leaf : Blk w lb #[.slice A n c, .int .i64 K] 34
 text : Blk w tb #[.string s] 9
 size : Blk w sb #[.int .i64 size] 3
theorem KBoxes.chg {S : Nat → Prop} {w w' : World} {lb tb sb : Nat} {A : Option Addr} {n c : Nat} {K : Int} {s : ByteArray} {size : Int} (h : KBoxes w lb tb sb A n c K s size) (hc : Chg S w w') (h1 : ¬ S lb) (h2 : ¬ S tb) (h3 : ¬ S sb) : KBoxes w' lb tb sb A n c K s size := ⟨h.leaf.chg hc h1, h.text.chg hc h2, h.size.chg hc h3⟩
def KdInv (S : Nat → Prop) (w2 : World) (NK : Nat) (J : List KE → World → Prop) (iv : Value) (wr : World) : Prop := ∃ (k : Nat) (pre : List KE), k ≤ NK ∧ iv = .int .i64 k ∧ pre.length = k ∧ Hid (J pre wr) ∧ Chg S w2 wr
theorem kinds_gives (n0 : Nat) (hn0 : 1 ≤ n0) (F : Nat → Prop) (A : Option Addr) (n c : Nat) (xs : List Cls) (K : Int) (s : ByteArray) (size : Int) (lb tb sb lo : Nat) (w : World) (hlo : lo ≤ w.heap.size) (S : Nat → Prop) (H : ClsRow F w A n c xs) (hl : xs.length = n) (h1 : 1 ≤ n) (h64 : n ≤ 64) (hs : s.size ≤ 100000000) (hbad : sizeBad n s.size size = false)
  (hB : KBoxes w lb tb sb A n c K s size) (hF : ∀ k, k < w.heap.size → F k → ¬ S k) (hS1 : ¬ S lb) (hS2 : ¬ S tb) (hS3 : ¬ S sb) (hSl : ∀ k, S k → k < w.heap.size) :
  Gives Fence.wide n0 Tryz.prog 171 #[.pointer (some ⟨lb, 0, none⟩), .pointer (some ⟨tb, 0, none⟩), .pointer (some ⟨sb, 0, none⟩)] (kEnc (s.size + 1 - n) (countS n s.size size)) S (kTell xs s lo (s.size + 1 - n)) (fun ys => ys.length = (kindsL xs).length) (fun _ => True) w := by
 intro l J Jx W hW hJ hJx hY h0
 refine callsIn_wide.2 ?_
 have hB0 := hB.chg hW id id id
 have x0 := hB0.leaf.cell 0 (v := .slice A n c) rfl
 have x1 := hB0.leaf.cell 1 (v := .int .i64 K) rfl
 have hK := hid (leafKinds_any F A n c xs K W (H.chg hW (fun _ _ _ h => h)) hl (by omega))
 have hBh := hid hB0
 have hHH := hid (fun (w' : World) (hc : Chg S w w') => H.chg hc hF)
 have hYh := hid hY
 have hJh := hid hJ
 have h0h := hid h0
 have hWs := hid (show Chg S w W from hW.mono (fun _ _ h => h.elim))
 have hsz := hid hW.size
 have hkl := kindsL_len xs
 have hmx := H.max
 have hle := H.le
 obtain ⟨NK, hNK⟩ : ∃ NK, NK = (kindsL xs).length := ⟨_, rfl⟩
 rw [← hNK] at hK hkl ⊢
 replace hNK := hid hNK
 replace hB := hid hB
 clear H hY hJ hJx h0 hW hB0
 go_enter Tryz.func171, Tryz.ntmps171
 go_wp2_with fail
 refine hK.out.mono ?_
 rintro e w2 ⟨A2, c2, rfl, hO2, hc2⟩
 have hC2 := hid (hWs.out.trans (hc2.mono (T := S) (fun _ _ h => h.elim)))
 have hB2 := hid (hBh.out.chg hc2 id id id)
 have hJ2 := hid (hJh.out _ _ _ hc2 h0h.out)
 have hO2h := hid hO2
 have hz2 := hid (Nat.le_trans hsz.out hc2.size)
 clear hO2 hc2 x0 x1 hK hBh h0h hWs
 go_wp2_with fail
 go_loopw [13] (fun iv wr => KdInv S w2 NK J iv wr) (fun iv _ => NK - (intOf iv).toNat)
 case atStart => exact ⟨0, [], Nat.zero_le _, rfl, rfl, hid hJ2.out, Chg.refl _ _⟩
 case round =>
  obtain ⟨k, pre, hk, rfl, hpl, hJr, hchg⟩ := hrel
  rcases Nat.lt_or_ge k NK with hkn | hkn
  ·have hk0 : (0 : Int) ≤ (k : Int) := by omega
   have hkI : (k : Int) < (NK : Int) := by omega
   have hOr := hid (own_chg hO2h.out hchg (fun j hj hs => by have := (own_of hO2h.out j hj).1; have := hSl _ hs; have := hsz.out; omega))
   obtain ⟨g, o, rfl, -, hgl, d0, d1, d2, d3⟩ := ClsRow.four (RowAt.of_own hOr.out) hNK.out.symm hkn
   have hdm := Nat.le_trans (RowAt.of_own hOr.out).le (RowAt.of_own hOr.out).max
   obtain ⟨y, hyd⟩ : ∃ y, y = (kindsL xs).getD k 0 := ⟨_, rfl⟩
   rw [← hyd] at d0 d1 d2 d3
   replace hyd := hid hyd
   have hz := Blk.new wr #[.int .u64 0, .int .u64 0, .int .u64 0, .int .u64 0] 84
   have hZ := hid hz
   have hBr := hid (hB2.out.chg hchg hS1 hS2 hS3)
   have hCr := hid hchg
   clear hz hchg
   go_wp2_with (with_reducible refine halt_op (.store 84 (.tmp 6) (.tmp 16)) ?_)
   unfold Halted
   refine store_blk rfl 84 (.tmp 6) (.tmp 16) (by rfl) _ (by rfl) _ (by rfl) hZ.out (by rfl) (by exact sizeCls) (by rfl) ?_
   intro w3 hB3 hc3
   have hcz := hid (((Chg.refl Nothing wr).alloc (.cells #[.int .u64 0, .int .u64 0, .int .u64 0, .int .u64 0] 84)).then hc3 (fun i hi h => absurd (show i = wr.heap.size from h) (by omega)))
   have hBx := hid (hBr.out.chg hcz.out id id id)
   have hC3 := hid (hCr.out.trans (hcz.out.mono (T := S) (fun _ _ h => h.elim)))
   have hCw := hid (hC2.out.trans hC3.out)
   have hJ3 := hid (hJh.out _ _ _ hcz.out hJr.out)
   obtain ⟨r0, r1, r2, r3, -, -, -, -, hlt1⟩ := CBox.at_ (show CBox w3 wr.heap.size y from hB3)
   have x0 := hBx.out.leaf.cell 0 (v := .slice A n c) rfl
   have x1 := hBx.out.leaf.cell 1 (v := .int .i64 K) rfl
   have x2 := hBx.out.text.cell 0 (v := .string s) rfl
   have x3 := hBx.out.size.cell 0 (v := .int .i64 size) rfl
   have hSe := hid (fun (m : Calm w3) => (⟨Calm.cell hBx.out.leaf.lt x0 m, Calm.cell hBx.out.leaf.lt x1 m, Calm.cell hBx.out.text.lt x2 m, Calm.cell hBx.out.size.lt x3 m, Calm.cell hlt1 r0 m, Calm.cell hlt1 r1 m, Calm.cell hlt1 r2 m, Calm.cell hlt1 r3 m⟩ : m.val.cell? ⟨lb, 0, none⟩ = some (.slice A n c) ∧ m.val.cell? ⟨lb, 1, none⟩ = some (.int .i64 K) ∧ m.val.cell? ⟨tb, 0, none⟩ = some (.string s) ∧ m.val.cell? ⟨sb, 0, none⟩ = some (.int .i64 size) ∧ m.val.cell? ⟨wr.heap.size, 0, none⟩ = some (.int .u64 (wd y 0)) ∧ m.val.cell? ⟨wr.heap.size, 1, none⟩ = some (.int .u64 (wd y 1)) ∧ m.val.cell? ⟨wr.heap.size, 2, none⟩ = some (.int .u64 (wd y 2)) ∧ m.val.cell? ⟨wr.heap.size, 3, none⟩ = some (.int .u64 (wd y 3))))
   have hPl := hid (fun (w' : World) (hc : Chg Nothing w3 w') => places_any F A n c xs K y w' (hHH.out _ (hCw.out.trans (hc.mono (T := S) (fun _ _ h => h.elim)))) hl (by omega))
   have hMk := hid (fun (w' : World) => marks_any y s w' (by omega))
   have hCo := hid (fun (w' : World) (gP gM : Nat) (hP : FBlk w' gP n (placeF xs y) 82) (hM : FBlk w' gM s.size (markF y s) 82) => corrKind xs y s size gP gM w' n hl h1 h64 hs hbad hP hM)
   have hd0 := hid ((Chg.refl Nothing w3).drew)
   clear hB3 hc3 hZ d0 d1 d2 d3 x0 x1 x2 x3 r0 r1 r2 r3 hBr hCr hOr
   go_wp2_with fail
   go_region_held3 (fun w' => w'.cell? ⟨lb, 0, none⟩ = some (.slice A n c) ∧ w'.cell? ⟨lb, 1, none⟩ = some (.int .i64 K) ∧ w'.cell? ⟨tb, 0, none⟩ = some (.string s) ∧ w'.cell? ⟨sb, 0, none⟩ = some (.int .i64 size) ∧ w'.cell? ⟨wr.heap.size, 0, none⟩ = some (.int .u64 (wd y 0)) ∧ w'.cell? ⟨wr.heap.size, 1, none⟩ = some (.int .u64 (wd y 1)) ∧ w'.cell? ⟨wr.heap.size, 2, none⟩ = some (.int .u64 (wd y 2)) ∧ w'.cell? ⟨wr.heap.size, 3, none⟩ = some (.int .u64 (wd y 3)))
    (first | exact hSe.out ⟨_, hd0.out⟩ | exact hSe.out ⟨_, hcP.out⟩ | exact hSe.out ⟨_, hcM.out⟩ | exact hSe.out ⟨_, hcQ.out⟩)
    (first
    | (go_at_call 151; with_reducible refine (hPl.out _ (by first | exact hcM.out | exact hd0.out)).mono ?_; rintro e wP ⟨gP, hgP, rfl, hBP, hcP0⟩; have hcP := hid (Chg.trans (by first | exact hcM.out | exact hd0.out) hcP0); replace hBP := hid hBP; replace hcP0 := hid hcP0)
    | (go_at_call 152; with_reducible refine (hMk.out _).mono ?_; rintro e wM ⟨gM, hgM, rfl, hBM, hcM0⟩; have hcM := hid (Chg.trans (by first | exact hcP.out | exact hd0.out) hcM0); replace hBM := hid hBM; replace hcM0 := hid hcM0)
    | (go_at_call 150; with_reducible refine (hCo.out _ _ _ (by first | exact hBP.out | exact hBP.out.chg hcM0.out id) (by first | exact hBM.out | exact hBM.out.chg hcP0.out id)).mono ?_; rintro e wQ ⟨A', c', rfl, hRQ, hcQ0⟩; have hcQ := hid (Chg.trans (by first | exact hcP.out | exact hcM.out) hcQ0); replace hRQ := hid hRQ; replace hcQ0 := hid hcQ0))
   all_goals
    have hCq := hid (hCw.out.trans (hcQ.out.mono (T := S) (fun _ _ h => h.elim)))
    have hJq := hJh.out _ _ _ hcQ.out hJ3.out
    have hTell : kTell xs s lo (s.size + 1 - n) pre (A', c') wQ := ⟨by rw [hpl, ← hNK.out]; exact hkn, by
     rw [hpl, ← hyd.out, hl]
     refine own_low hRQ.out (Nat.le_trans hlo ?_)
     first
     | exact Nat.le_trans hCw.out.size hcM.out.size
     | exact Nat.le_trans hCw.out.size hcP.out.size⟩
    obtain ⟨fn, tmps, assign, body, hy, hR⟩ := hYh.out pre (A', c') wQ hCq.out hJq hTell
    unfold kEnc at hy
    simp only [] at hy
    have hRh := hid hR
    have hC9 := hid (hC3.out.trans (hcQ.out.mono (T := S) (fun _ _ h => h.elim)))
    clear hR hJq hTell
    refine ‹∀ (a : Act) (w : World), Code.wp _ _ _ a w → _› _ _ ?_
    refine (wpIn_wide (n := n0)).1 ?_
    gi_wp2
    refine hRh.out.mono ?_
    rintro e W3 (⟨rfl, hJ3', hk3⟩ | ⟨rfl, hJx3⟩)
    ·have hC4 := hid (hC9.out.trans hk3)
     have hJ4 := hid (show Hid (J (pre ++ [(A', c')]) W3) from hid hJ3')
     clear hJ3' hk3
     gi_wp2
     try go_wp2
     go_roundw
     case rel => exact ⟨k + 1, pre ++ [(A', c')], hkn, by go_num, by rw [List.length_append, hpl]; rfl, hJ4.out, hC4.out⟩
     case measure => simp [intOf]; omega
    ·have hJx4 := hid hJx3
     clear hJx3
     gi_wp2
     try go_wp2
     refine bodyPost_ret (results_none rfl _ _ _) rfl ?_
     exact ⟨⟨_, rfl⟩, .inr ⟨_, trivial, hJx4.out⟩⟩
  ·obtain rfl : k = NK := by omega
   have hd : decide ((k : Int) < (k : Int)) = false := decide_eq_false (by omega)
   have hJ4 := hid (show (∃ ys : List KE, ys.length = k ∧ J ys wr) from ⟨pre, hpl, hJr.out⟩)
   clear hchg hJr
   go_wp2
   go_end0
   exact ⟨⟨_, rfl⟩, .inl hJ4.out⟩
def IBlk (w : World) (g n : Nat) (f : Nat → Int) : Prop := Blk w g ((List.range n).map fun q => Value.int .i64 (f q)).toArray 3
theorem IBlk.cell {w : World} {g n : Nat} {f : Nat → Int} (h : IBlk w g n f) {q : Nat} (hq : q < n) : w.cell? ⟨g, q, none⟩ = some (.int .i64 (f q)) := Blk.cell h q (by simp [hq])
theorem IBlk.free {w : World} {g n : Nat} {f : Nat → Int} (h : IBlk w g n f) (q : Nat) : w.frozen? ⟨g, q, none⟩ = false := Blk.free h q
theorem IBlk.lt {w : World} {g n : Nat} {f : Nat → Int} (h : IBlk w g n f) : g < w.heap.size := Blk.lt h
theorem IBlk.chg {S : Nat → Prop} {w w' : World} {g n : Nat} {f : Nat → Int} (h : IBlk w g n f) (hc : Chg S w w') (hn : ¬ S g) : IBlk w' g n f := Blk.chg h hc hn
theorem IBlk.congr {w : World} {g n : Nat} {f f' : Nat → Int} (h : IBlk w g n f) (he : ∀ q, q < n → f q = f' q) : IBlk w g n f' := by
 unfold IBlk at h ⊢
 rwa [show ((List.range n).map fun q => Value.int .i64 (f' q)) = ((List.range n).map fun q => Value.int .i64 (f q)) from List.map_congr_left (fun q hq => by rw [he q (by simpa using hq)])]
theorem IBlk.set {w : World} {g n : Nat} {f : Nat → Int} (h : IBlk w g n f) (q : Nat) (v : Int) : IBlk (w.setCell ⟨g, q, none⟩ (.int .i64 v)) g n (fun x => if x = q then v else f x) := by
 have h1 := Blk.set h q (.int .i64 v)
 unfold IBlk
 rw [show ((List.range n).map fun x => Value.int .i64 (if x = q then v else f x)).toArray = (((List.range n).map fun x => Value.int .i64 (f x)).toArray).setIfInBounds q (.int .i64 v) from by
  apply Array.ext
  ·simp
  ·intro i h1 h2
   simp at h1
   rw [Array.getElem_setIfInBounds (by simpa using h1)]
   by_cases hq : q = i
   ·subst hq; simp
   ·rw [if_neg hq]; simp; intro e; exact absurd e.symm hq]
 exact h1
theorem make_int (n : Nat) (hn : n ≤ 1000000000) (w : World) : (Instr.makeSlice 37 (.int .i64 (n : Int)) (.int .i64 (n : Int))).run Tryz.prog w = .ok (.slice (some ⟨w.heap.size, 0, none⟩) n n) (w.alloc (.cells (madeCells #[.int .i64 0] n) 3)) :=
 Go.run_make_row' _ _ (.int .i64 0) 8 Tryz.underlying37 infoInt rfl .i64 .i64 n (by omega) (by omega) w
theorem IBlk.made (w : World) (n : Nat) : IBlk (w.alloc (.cells (madeCells #[.int .i64 0] n) 3)) w.heap.size n (fun _ => 0) := by
 have h := Blk.new w (madeCells #[.int .i64 0] n) 3
 unfold IBlk
 rwa [show ((List.range n).map fun _ => Value.int .i64 0).toArray = madeCells #[.int .i64 0] n from by
  apply Array.ext'
  rw [toList_madeCells_one]
  simp [List.map_const']]
theorem IBlk.own {w : World} {g n base : Nat} {f : Nat → Int} (h : IBlk w g n f) (hb : base ≤ g) (hn : n ≤ 1000000000) : IRow w base (some ⟨g, 0, none⟩) n n ((List.range n).map f) := by
 refine ⟨by simp, .inr ⟨g, n, _, rfl, hb, h, Nat.le_refl _, by unfold maxLen; omega, by simp, ?_⟩⟩
 rw [List.take_of_length_le (by simp)]; simp [Function.comp_def]
theorem sumL_take (l : List Cls) (f : Cls → Int) : ∀ k, k ≤ l.length → sumN k (fun j => f (l.getD j 0)) = sumL (l.take k) f
 | 0, _ => rfl
 | k + 1, h => by
  rw [sumN_succ, sumL_take l f k (by omega), List.take_succ_eq_append_getElem (by omega : k < l.length), sumL_append, sumL_cons, sumL_nil]
  simp [List.getD, show k < l.length from by omega]
def kHit (xs : List Cls) (s : ByteArray) (k i : Nat) : Int := slideN xs.length (placeF xs ((kindsL xs).getD k 0)) (markF ((kindsL xs).getD k 0) s) i
def kSum (xs : List Cls) (s : ByteArray) (k i : Nat) : Int := sumN k (fun j => kHit xs s j i)
theorem kSum_succ (xs : List Cls) (s : ByteArray) (k i : Nat) : kSum xs s (k + 1) i = kSum xs s k i + kHit xs s k i := rfl
theorem kSum_all (xs : List Cls) (s : ByteArray) (i : Nat) : boundN xs - kSum xs s (kindsL xs).length i = missN xs s i := by
 have h := kinds_law xs s i
 have h2 := sumL_take (kindsL xs) (fun c => slideN xs.length (placeF xs c) (markF c s) i) (kindsL xs).length (Nat.le_refl _)
 rw [List.take_length] at h2
 have h3 : kSum xs s (kindsL xs).length i = sumL (kindsL xs) (fun c => slideN xs.length (placeF xs c) (markF c s) i) := h2
 omega
theorem kHit_bound (xs : List Cls) (s : ByteArray) (k i : Nat) (h : xs.length ≤ 64) : 0 ≤ kHit xs s k i ∧ kHit xs s k i ≤ 64 := by
 unfold kHit slideN
 refine ⟨sumN_nonneg _ _ fun u _ => Int.mul_nonneg (placeF_bound _ _ _).1 (markF_bound _ _ _).1, ?_⟩
 have := sumN_le xs.length (fun u => placeF xs ((kindsL xs).getD k 0) u * markF ((kindsL xs).getD k 0) s (i + u)) 1 (fun u _ => by
  have h1 := placeF_bound xs ((kindsL xs).getD k 0) u
  have h2 := markF_bound ((kindsL xs).getD k 0) s (i + u)
  exact Int.le_trans (Int.mul_le_mul h1.2 h2.2 h2.1 (by decide)) (by decide))
 omega
theorem kSum_bound (xs : List Cls) (s : ByteArray) (i : Nat) (h : xs.length ≤ 64) : ∀ k, 0 ≤ kSum xs s k i ∧ kSum xs s k i ≤ 64 * k
 | 0 => ⟨Int.le_refl _, Int.le_refl _⟩
 | k + 1 => by
  have h1 := kSum_bound xs s i h k
  have h2 := kHit_bound xs s k i h
  rw [kSum_succ]; omega
theorem boundN_bound (xs : List Cls) : 0 ≤ boundN xs ∧ boundN xs ≤ xs.length := by
 have := whereTo_len xs fullC xs.length
 unfold boundN; omega
end Go.Proofs.YtoelilejohfglaaGreat
namespace Go.Proofs.YtoelilejohfglaaGreat
open Go.RowKit
set_option linter.unusedVariables false
set_option linter.unusedSimpArgs false
open Go.RowKit Go.Shelf
attribute [local go_sem] Oper.semAt_some
theorem symbCounts_bad (F : Nat → Prop) (A : Option Addr) (n c : Nat) (xs : List Cls) (K : Int) (s : ByteArray) (size : Int) (w : World) (H : ClsRow F w A n c xs) (hl : xs.length = n) (hE : ¬ amiss xs K s.size size = 0) :
  Calls Tryz.prog 118 #[.agg #[.slice A n c, .int .i64 K], .string s, .int .i64 size] w fun e w' => GivesSym w.heap.size w' e (symY xs K s size) (symN xs K s size) (amiss xs K s.size size) ∧ Chg Nothing w w' := by
 have hX := Blk.new w #[.slice A n c, .int .i64 K] 34
 have x0 := hX.cell 0 (v := .slice A n c) rfl
 have x1 := hX.cell 1 (v := .int .i64 K) rfl
 have hlx := hX.lt
 have hw0 := hid ((Chg.refl Nothing w).alloc (.cells #[.slice A n c, .int .i64 K] 34))
 have hCh := hid (symbCheck_any F A n c xs K s size (w.alloc (.cells #[.slice A n c, .int .i64 K] 34)) (H.chg hw0.out (fun _ _ _ h => h)) hl)
 have hYe := hid (show symY xs K s size = [] from by unfold symY; rw [if_neg hE])
 have hNe := hid (show symN xs K s size = 0 from by unfold symN; rw [if_neg hE])
 rw [hYe.out, hNe.out]
 generalize amiss xs K s.size size = E at hCh hE ⊢
 have hEb : (E == 0) = false := beq_eq_false_iff_ne.2 hE
 clear hX H hl
 go_enter Tryz.func118, Tryz.ntmps118
 go_wp2_with fail
 refine hCh.out.mono ?_
 rintro e w1 ⟨rfl, hc1⟩
 have hC1 := hid (hw0.out.trans hc1)
 clear hc1
 go_wp2
 go_ret3
 exact ⟨⟨none, 0, rfl, World.ownsRow_nil _ _ _ _⟩, hC1.out⟩
theorem symbKinds_any (A : Option Addr) (n c : Nat) (K : Int) (s : ByteArray) (size : Int) (w : World) :
  Calls Tryz.prog 146 #[.agg #[.slice A n c, .int .i64 K], .string s, .int .i64 size] w fun e w' => e = .returned (.func (.func 171) #[] #[.pointer (some ⟨w.heap.size, 0, none⟩), .pointer (some ⟨w.heap.size + 1, 0, none⟩), .pointer (some ⟨w.heap.size + 2, 0, none⟩)]) ∧ KBoxes w' w.heap.size (w.heap.size + 1) (w.heap.size + 2) A n c K s size ∧ w'.heap.size = w.heap.size + 3 ∧ Chg Nothing w w' := by
 go_enter Tryz.func146, Tryz.ntmps146
 go_wp2
 go_ret
 refine ⟨rfl, ⟨((Blk.new w _ _).alloc _).alloc _, ?_, ?_⟩, by simp only [World.size_alloc], (((Chg.refl _ _).alloc _).alloc _).alloc _⟩
 ·have := (Blk.new (w.alloc (.cells #[.slice A n c, .int .i64 K] 34)) #[.string s] 9).alloc (.cells #[.int .i64 size] 3)
  rwa [World.size_alloc] at this
 ·have := Blk.new ((w.alloc (.cells #[.slice A n c, .int .i64 K] 34)).alloc (.cells #[.string s] 9)) #[.int .i64 size] 3
  rwa [World.size_alloc, World.size_alloc] at this
def two (a b : Nat) : Nat → Prop := fun k => k = a ∨ k = b
def CoI (W0 : World) (gO bA N : Nat) (xs : List Cls) (s : ByteArray) (B cs : Int) (pre : List KE) (W : World) : Prop := IBlk W gO N (fun i => B - kSum xs s pre.length i) ∧ Blk W bA #[.int .i64 ((pre.length : Int) * cs)] 3 ∧ Chg (two gO bA) W0 W
theorem CoI_stays (W0 : World) (gO bA N : Nat) (xs : List Cls) (s : ByteArray) (B cs : Int) (h1 : gO < W0.heap.size) (h2 : bA < W0.heap.size) (pre : List KE) : Stays W0.heap.size (CoI W0 gO bA N xs s B cs pre) := fun X Y T hb hc ⟨i1, i2, i3⟩ =>
 ⟨i1.chg hc (fun e => by have := (hb _ e).1; omega), i2.chg hc (fun e => by have := (hb _ e).1; omega), i3.then hc (fun i hi e => by have := (hb _ e).1; omega)⟩
theorem kTell_stays (xs : List Cls) (s : ByteArray) (lo N : Nat) (pre : List KE) (x : KE) (B : Nat) : Stays B (kTell xs s lo N pre x) := fun X Y T hb hc ⟨i1, i2⟩ =>
 ⟨i1, own_chg i2 hc (fun k hk e => by
  obtain ⟨-, o, ho, hcc⟩ := hb _ e
  obtain ⟨o', ho', hcc'⟩ := own_cells i2 k hk
  rw [ho] at ho'
  obtain rfl := Option.some.inj ho'
  rw [hcc] at hcc'; cases hcc')⟩
def CoB (wb : World) (gO N : Nat) (f v : Nat → Int) (iv : Value) (wr : World) : Prop := ∃ i : Nat, i ≤ N ∧ iv = .int .i64 i ∧ IBlk wr gO N (fun q => if q < i then f q - v q else f q) ∧ Chg (One gO) wb wr
theorem cob_step {f v : Nat → Int} {i N : Nat} (q : Nat) (hq : q < N) : (if q = i then f i - v i else (if q < i then f q - v q else f q)) = if q < i + 1 then f q - v q else f q := by
 by_cases h : q = i
 ·have h3 : q < i + 1 := by omega
  rw [if_pos h, if_pos h3, h]
 ·rw [if_neg h]
  by_cases h2 : q < i
  ·have h3 : q < i + 1 := by omega
   rw [if_pos h2, if_pos h3]
  ·have h3 : ¬ q < i + 1 := by omega
   rw [if_neg h2, if_neg h3]
theorem URow.at_ {w : World} {base : Nat} {A : Option Addr} {n c : Nat} {f : Nat → Int} (h : URow w base A n c f) {k : Nat} (hk : k < n) : ∃ g o, A = some ⟨g, o, none⟩ ∧ g < w.heap.size ∧ w.cell? ⟨g, o + k, none⟩ = some (.int .u64 (f k)) := by
 have hE := ElsAt.of_own (enc := Value.int .u64) (d := 0) (xs := (List.range n).map f) (by rw [List.map_map]; exact h)
 obtain ⟨g, o, e, -, hlt, hc⟩ := hE.at_ hk
 refine ⟨g, o, e, hlt, hc.trans ?_⟩
 simp [hk]
theorem URow.nc {w : World} {base : Nat} {A : Option Addr} {n c : Nat} {f : Nat → Int} (h : URow w base A n c f) : n ≤ c ∧ c ≤ 9223372036854775807 := by
 have hE := ElsAt.of_own (enc := Value.int .u64) (d := 0) (xs := (List.range n).map f) (by rw [List.map_map]; exact h)
 exact ⟨hE.2.1, hE.2.2.1⟩
def CoA (w2 : World) (gO N : Nat) (B : Int) (iv : Value) (wr : World) : Prop := ∃ i : Nat, i ≤ N ∧ iv = .int .i64 i ∧ IBlk wr gO N (fun q => if q < i then B else 0) ∧ Chg (One gO) w2 wr
theorem symbCounts_ok (F : Nat → Prop) (A : Option Addr) (n c : Nat) (xs : List Cls) (K : Int) (s : ByteArray) (size : Int) (w : World) (H : ClsRow F w A n c xs) (hF : ∀ k, F k → k < w.heap.size) (hl : xs.length = n) (hs : s.size ≤ 100000000) (hr : rightB xs K = true) (hbad : sizeBad n s.size size = false) :
  Calls Tryz.prog 118 #[.agg #[.slice A n c, .int .i64 K], .string s, .int .i64 size] w fun e w' => GivesSym w.heap.size w' e (countsL xs s) (((kindsL xs).length : Int) * countS n s.size size) 0 ∧ Chg Nothing w w' := by
 have hX := Blk.new w #[.slice A n c, .int .i64 K] 34
 have hw0 := hid ((Chg.refl Nothing w).alloc (.cells #[.slice A n c, .int .i64 K] 34))
 have hE : amiss xs K s.size size = 0 := by unfold amiss; rw [if_pos hr, hl, hbad]; rfl
 have hCh := hid (symbCheck_any F A n c xs K s size (w.alloc (.cells #[.slice A n c, .int .i64 K] 34)) (H.chg hw0.out (fun _ _ _ h => h)) hl)
 rw [hE] at hCh
 have hHH := hid (fun (w' : World) (hc : Chg Nothing w w') => H.chg hc (fun _ _ _ h => h))
 have h1 := (right_len hr).1
 have h64 := (right_len hr).2
 rw [hl] at h1 h64
 have hlh := hid hl
 have hle := H.le
 have hmx := H.max
 have hXh := hid hX
 obtain ⟨N, hN⟩ : ∃ N, N = s.size + 1 - n := ⟨_, rfl⟩
 have hN9 : N ≤ 100000001 := by omega
 have hmkI := fun w => make_int N (by omega) w
 have hsub : (s.size : Int) - (n : Int) + 1 ≤ 0 ∧ (N : Int) = 0 ∨ 0 < (s.size : Int) - (n : Int) + 1 ∧ (N : Int) = (s.size : Int) - (n : Int) + 1 := by omega
 have hite : (if (0 : Int) < (s.size : Int) - (n : Int) + 1 then (s.size : Int) - (n : Int) + 1 else 0) = (N : Int) := by split <;> omega
 have hmax : max (0 : Int) ((s.size : Int) - (n : Int) + 1) = (N : Int) := by omega
 replace hN := hid hN
 replace hsub := hid hsub
 clear H hX hE hr
 refine callsIn_wide.1 (callsIn_of_wp_marks (n := 9) Tryz.func118 rfl trivial ?_ rfl)
 simp only [Tryz.ntmps118, List.size_toArray, List.length_cons, List.length_nil, Nat.reduceAdd, Nat.reduceSub, Array.replicate_succ, Array.replicate_zero, List.push_toArray, List.append_toArray, List.nil_append, List.cons_append]
 refine wpIn_wide.2 ?_
 go_wp2_with fail
 refine hCh.out.mono ?_
 rintro e w1 ⟨rfl, hc1⟩
 have hX1 := hXh.out.chg hc1 id
 have x0 := hX1.cell 0 (v := .slice A n c) rfl
 have x1 := hX1.cell 1 (v := .int .i64 K) rfl
 have hlx := hX1.lt
 have hC1 := hid (hw0.out.trans hc1)
 have hX1h := hid hX1
 clear hc1 hX1 hXh
 go_wp2_with fail
 have hO2 := hid ((IBlk.made w1 N).chg ((Chg.refl Nothing _).alloc (.cells #[.slice (some ⟨w1.heap.size, 0, none⟩) N N] 37)) id)
 have hb2 := Blk.new (w1.alloc (.cells (madeCells #[.int .i64 0] N) 3)) #[.slice (some ⟨w1.heap.size, 0, none⟩) N N] 37
 rw [World.size_alloc] at hb2
 replace hb2 := hid hb2
 have hc2 := ((Chg.refl Nothing w1).alloc (.cells (madeCells #[.int .i64 0] N) 3)).alloc (.cells #[.slice (some ⟨w1.heap.size, 0, none⟩) N N] 37)
 have hX2 := hid (hX1h.out.chg hc2 id)
 have hC2 := hid (hC1.out.trans hc2)
 have hlo := hid hC1.out.size
 have hlx2 := hid (show w.heap.size < w1.heap.size from hlx)
 have hz2 := hid (show ((w1.alloc (.cells (madeCells #[.int .i64 0] N) 3)).alloc (.cells #[.slice (some ⟨w1.heap.size, 0, none⟩) N N] 37)).heap.size = w1.heap.size + 2 from by simp only [World.size_alloc])
 obtain ⟨gO, hgO⟩ : ∃ gO, gO = w1.heap.size := ⟨_, rfl⟩
 rw [← hgO] at hO2 hb2 hX2 hC2 hlo hlx2 hz2 ⊢
 clear hgO hc2 hX1h x0 x1 hlx
 generalize (w1.alloc (.cells (madeCells #[.int .i64 0] N) 3)).alloc (.cells #[.slice (some ⟨gO, 0, none⟩) N N] 37) = w2 at hO2 hb2 hX2 hC2 hz2 ⊢
 clear hC1
 have hBd := hid (fun (w' : World) (hc : Chg Nothing w w') => leafBound_any F A n c xs K w' (hHH.out w' hc) hlh.out (by omega))
 obtain ⟨B, hB⟩ : ∃ B, B = boundN xs := ⟨_, rfl⟩
 rw [← hB] at hBd
 replace hB := hid hB
 have hCw := hid (fun (wr : World) (hc : Chg (One gO) w2 wr) => Chg.then hC2.out hc (fun i hi e => absurd (show i = gO from e) (by have := hlo.out; omega)))
 go_loopw [35] (fun iv wr => CoA w2 gO N B iv wr) (fun iv _ => N - (intOf iv).toNat)
 case atStart => exact ⟨0, Nat.zero_le _, rfl, hO2.out.congr (fun q _ => by rw [if_neg (by omega)]), Chg.refl _ _⟩
 case round =>
  obtain ⟨i, hi, rfl, hOr, hchg⟩ := hrel
  have hbr := hb2.out.chg hchg (fun e => absurd (show gO + 1 = gO from e) (by omega))
  have hXr := hX2.out.chg hchg (fun e => absurd (show w.heap.size = gO from e) (by have := hlx2.out; omega))
  have z0 := hbr.cell 0 (v := .slice (some ⟨gO, 0, none⟩) N N) rfl
  have x0 := hXr.cell 0 (v := .slice A n c) rfl
  have x1 := hXr.cell 1 (v := .int .i64 K) rfl
  rcases Nat.lt_or_ge i N with hin | hin
  ·have hi0 : (0 : Int) ≤ (i : Int) := by omega
   have hiI : (i : Int) < (N : Int) := by omega
   have hC4 := hid (hCw.out _ hchg)
   have hd0 := hid ((Chg.refl Nothing wr).drew)
   have hBd2 := hid (fun (w' : World) (hc : Chg Nothing wr w') => hBd.out w' (hC4.out.trans hc))
   have hOrh := hid hOr
   have hCr := hid hchg
   have hS := hid (fun (m : World) (hc : Chg (One gO) wr m) => (⟨(hbr.chg hc (fun e => absurd (show gO + 1 = gO from e) (by omega))).cell 0 rfl, (hXr.chg hc (fun e => absurd (show w.heap.size = gO from e) (by have := hlx2.out; omega))).cell 0 rfl, (hXr.chg hc (fun e => absurd (show w.heap.size = gO from e) (by have := hlx2.out; omega))).cell 1 rfl⟩ : m.cell? ⟨gO + 1, 0, none⟩ = some (.slice (some ⟨gO, 0, none⟩) N N) ∧ m.cell? ⟨w.heap.size, 0, none⟩ = some (.slice A n c) ∧ m.cell? ⟨w.heap.size, 1, none⟩ = some (.int .i64 K)))
   have hd1 := hid (Chg.up (S := One gO) hd0.out)
   clear z0 x0 x1 hbr hXr hOr hchg
   go_wp2_with fail
   go_region_held3 (fun w' => w'.cell? ⟨gO + 1, 0, none⟩ = some (.slice (some ⟨gO, 0, none⟩) N N) ∧ w'.cell? ⟨w.heap.size, 0, none⟩ = some (.slice A n c) ∧ w'.cell? ⟨w.heap.size, 1, none⟩ = some (.int .i64 K))
    (first | exact hS.out _ hd1.out | exact hS.out _ hc6.out | exact hS.out _ (hc6.out.setOne _ _))
    (first
    | (go_at_call 145; with_reducible refine (hBd2.out _ hd0.out).mono ?_; rintro e w5 ⟨rfl, hc5⟩; replace hc5 := hid (hd0.out.trans hc5); have hc6 := hid (Chg.up (S := One gO) hc5.out); have hO5' := hOrh.out.chg hc5.out id; have z5 := hO5'.cell hin; have f5 := hO5'.free i; have l5 := hO5'.lt; clear hO5'))
   all_goals
    have hO5 := hid (((hOrh.out.chg hc5.out id).set i B).congr (f' := fun q => if q < i + 1 then B else 0) (fun q hq => by
     by_cases h : q = i
     ·have h3 : q < i + 1 := by omega
      rw [if_pos h, if_pos h3]
     ·rw [if_neg h]
      by_cases h2 : q < i
      ·have h3 : q < i + 1 := by omega
       rw [if_pos h2, if_pos h3]
      ·have h3 : ¬ q < i + 1 := by omega
       rw [if_neg h2, if_neg h3]))
    have hC5 := hid (hCr.out.trans ((Chg.up (S := One gO) hc5.out).trans ((Chg.refl (One gO) w5).setOne i (.int .i64 B))))
    go_wp2
    go_roundw
    case rel => exact ⟨i + 1, hin, by go_num, hO5.out, hC5.out⟩
    case measure => simp [intOf]; omega
  ·obtain rfl : N = i := by omega
   have hd : decide ((N : Int) < (N : Int)) = false := decide_eq_false (by omega)
   have hO3 := hid (hOr.congr (f' := fun _ => B) (fun q hq => by rw [if_pos hq]))
   have hb3 := hid hbr
   have hX3 := hid hXr
   have hC3 := hid (hCw.out _ hchg)
   have hz3 := hid (show gO + 2 ≤ wr.heap.size from by have := hchg.size; have := hz2.out; omega)
   have hl0 : w.heap.size < wr.heap.size := hXr.lt
   clear hOr hchg hbr hXr hBd hCw hO2 hb2 hX2 hC2 z0
   go_wp2_with fail
   refine (symbKinds_any A n c K s size _).mono ?_
   rintro e w4 ⟨rfl, hKB, hz4, hc4⟩
   have hca := (Chg.refl Nothing wr).alloc (.cells #[.int .i64 0] 3)
   have hA4 := hid ((Blk.new wr #[.int .i64 0] 3).chg hc4 id)
   have hc5 := hca.trans hc4
   have hO4 := hid (hO3.out.chg hc5 id)
   have hb4 := hid (hb3.out.chg hc5 id)
   have hX4 := hid (hX3.out.chg hc5 id)
   have hC4 := hid (hC3.out.trans hc5)
   rw [World.size_alloc] at hz4 hKB
   have hz4h := hid hz4
   have hKBh := hid hKB
   obtain ⟨bA, hbA⟩ : ∃ bA, bA = wr.heap.size := ⟨_, rfl⟩
   simp only [World.size_alloc]
   rw [← hbA] at hA4 hz4h hKBh hz3 ⊢
   replace hbA := hid hbA
   clear hca hc4 hc5 hKB hz4 hO3 hb3 hX3 hC3 x0 x1 hl0
   go_wp2_with fail
   try rw [← hbA.out]
   clear hbA
   obtain ⟨cs, hcs⟩ : ∃ cs, cs = countS n s.size size := ⟨_, rfl⟩
   have hbz := hid (show gO < w4.heap.size ∧ bA < w4.heap.size from ⟨hO4.out.lt, hA4.out.lt⟩)
   have hseq := hid (fun (w5 : World) (hc : Chg Nothing w4 w5) (hz : w4.heap.size + 2 ≤ w5.heap.size) => kinds_gives 8 (by decide) (fun k => F k) A n c xs K s size (bA + 1) (bA + 1 + 1) (bA + 1 + 2) w4.heap.size w5 (by omega) (fun k => two gO bA k ∨ k = w4.heap.size ∨ k = w4.heap.size + 1) (hHH.out _ (hC4.out.trans hc)) hlh.out h1 h64 hs hbad (hKBh.out.chg hc id id id)
    (fun k _ hk e => by have := hF k hk; have := hlx2.out; have := hz3.out; have := hbz.out; unfold two at e; omega)
    (fun e => by have := hz4h.out; have := hz3.out; unfold two at e; omega) (fun e => by have := hz4h.out; have := hz3.out; unfold two at e; omega) (fun e => by have := hz4h.out; have := hz3.out; unfold two at e; omega)
    (fun k e => by have := hbz.out; unfold two at e; omega))
   rw [← hcs] at hseq
   replace hcs := hid hcs
   have hN2 := hN.out
   rw [← hN2] at hseq
   clear hN2
   refine (wpIn_wide (n := 9)).1 ?_
   refine' wpIn_range_gives (F := Fence.wide) rfl (by omega) (gf := 171) (lb := #[.pointer (some ⟨bA + 1, 0, none⟩), .pointer (some ⟨bA + 1 + 1, 0, none⟩), .pointer (some ⟨bA + 1 + 2, 0, none⟩)]) rfl trivial (enters_of Tryz.func171 (by kernel_rfl) rfl) (encs := kEnc N cs) (fun _ => rfl) (S := two gO bA) (G := kTell xs s w4.heap.size N) (fun k e => by have := hbz.out; unfold two at e; omega) hseq.out
    (CoI w4 gO bA N xs s B cs) (fun _ _ _ => False) (CoI_stays w4 gO bA N xs s B cs hbz.out.1 hbz.out.2) (fun _ _ _ _ _ _ _ h => h) (fun _ _ => kTell_stays _ _ _ _ _ _ _) ⟨hO4.out.congr (fun q _ => by show B = B - 0; omega), by simpa using hA4.out, Chg.refl _ _⟩ _ ?assign ?body ?done ?stop
   case assign =>
    intro l x W K' hK'
    unfold kEnc
    gi_wp2
    exact hK'
   case stop =>
    rintro D c pre W _ _ h _
    exact h.elim
   case done =>
    rintro D ys W hD hE ⟨hO, hA, hch⟩ hDef
    have hB9 := hb4.out.chg hch (fun e => by have := hz3.out; unfold two at e; omega)
    have z0 := hB9.cell 0 (v := .slice (some ⟨gO, 0, none⟩) N N) rfl
    have z1 := hA.cell 0 (v := .int .i64 ((ys.length : Int) * cs)) rfl
    rw [hE] at z1
    have hOf := hid ((hO.congr (f' := missN xs s) (fun q _ => by rw [hE, hB.out]; exact kSum_all xs s q)).own (base := w.heap.size) (Nat.le_trans hlo.out (Nat.le_refl _)) (by omega))
    have hDefh := hid hDef
    have hch0 := hid hch
    have hDlt := hid (show D < W.heap.size from (Array.getElem?_eq_some_iff.1 hDef).1)
    have hlen := hid (show (countsL xs s).length = N from by unfold countsL; rw [hlh.out, ← hN.out]; simp)
    have hcl := hid (show countsL xs s = (List.range N).map (missN xs s) from by unfold countsL; rw [hlh.out, ← hN.out])
    obtain ⟨kc, hkc⟩ : ∃ kc, kc = ((kindsL xs).length : Int) * cs := ⟨_, rfl⟩
    rw [← hkc] at z1
    replace hkc := hid hkc
    clear hO hA hch hDef hB9 hE
    go_wp2_with fail
    have hCall := hid ((hC4.out.then hch0.out (fun j hj e => by have := hlo.out; have := hz3.out; unfold two at e; omega)))
    go_quiet (fail)
    go_wp2
    have hD9 : (W.drewN nq).heap[D]? = some (.deferred (some [])) := hDefh.out
    have hpo : Chg (One D) (W.drewN nq) ((W.drewN nq).putObj D (.deferred none)) := Chg.of_grownBy (grownBy_putObj' (W.drewN nq) D (.deferred none)) (fun k h _ => by cases h; rfl)
    refine ⟨by simp, .inl ⟨_, _, rfl, run_takeDeferred hD9, ?_⟩⟩
    have hsz9 : w.heap.size ≤ w4.heap.size := hC4.out.size
    refine ⟨_, results_tmp3 rfl _ _ _, ⟨some ⟨gO, 0, none⟩, N, by rw [hlen.out]; simp [hkc.out, hcs.out], ?_⟩, (hCall.out.drewN nq).then hpo (fun j hj e => absurd (show j = D from e) (by omega))⟩
    rw [hlen.out, hcl.out]
    exact own_chg hOf.out (((Chg.refl (One D) W).drewN nq).trans hpo) (fun k hk e => by
     have h1 : k = gO := by obtain ⟨a, ha, rfl⟩ := hk; injection ha with ha; subst ha; rfl
     have h2 : k = D := e
     have := hbz.out.1; omega)
   case body =>
    rintro l pre ⟨Ax, cx⟩ W ⟨hO, hA, hch⟩ ⟨hpl, hU⟩
    have hB9 := hb4.out.chg hch (fun e => by have := hz3.out; unfold two at e; omega)
    have z0 := hB9.cell 0 (v := .slice (some ⟨gO, 0, none⟩) N N) rfl
    have a0 := hA.cell 0 (v := .int .i64 ((pre.length : Int) * cs)) rfl
    have a1 := hA.free 0
    have al := hA.lt
    have hcb := countS_bound n s.size size (by omega) (by omega)
    rw [← hcs.out] at hcb
    have hkl := kindsL_len xs
    have hpl64 : pre.length < 64 := by have := hlh.out; omega
    obtain ⟨kc, hkc⟩ : ∃ kc, kc = (pre.length : Int) * cs := ⟨_, rfl⟩
    have hkc0 : 0 ≤ kc ∧ kc ≤ 640000000000 := by
     rw [hkc]
     refine ⟨Int.mul_nonneg (by omega) hcb.1, ?_⟩
     have := Int.mul_le_mul (show (pre.length : Int) ≤ 64 by omega) hcb.2 hcb.1 (by decide)
     omega
    rw [← hkc] at a0
    have hkn := hid (show kc + cs = ((pre.length + 1 : Nat) : Int) * cs from by rw [hkc, show (((pre.length + 1 : Nat)) : Int) = (pre.length : Int) + 1 from by omega, Int.add_mul, Int.one_mul])
    have hwk : IntKind.i64.wrap (kc + cs) = kc + cs := by rw [IntKind.wrap_i64]; omega
    have hA2 := hid (hA.set 0 (.int .i64 (kc + cs)))
    have hst := (Chg.refl (One bA) W).setOne 0 (.int .i64 (kc + cs))
    have hO2 := hid (hO.chg hst (fun e => absurd (show gO = bA from e) (by have := hz3.out; omega)))
    have hB2 := hid (hB9.chg hst (fun e => absurd (show gO + 1 = bA from e) (by have := hz3.out; omega)))
    have hU2 := hid (own_chg hU hst (fun k hk e => by
     have h1 := (own_of hU k hk).1
     have h2 : k = bA := e
     have := hbz.out.2; omega))
    have hst2 := hid hst
    have hchh := hid hch
    replace hkc := hid hkc
    have hle9 := URow.nc hU
    clear hO hA hch hB9 hU hst hcb
    have hkv := hid (fun i => kHit_bound xs s pre.length i (by rw [hlh.out]; exact h64))
    have hks := hid (fun i => kSum_bound xs s i (by rw [hlh.out]; exact h64) pre.length)
    have hBb := hid (boundN_bound xs)
    have hNI : (N : Int) ≤ 100000001 := by omega
    have hst3 := hid (show Chg (two gO bA) W (W.setCell ⟨bA, 0, none⟩ (.int .i64 (kc + cs))) from hst2.out.mono (fun _ _ e => .inr e))
    have hUf := hid (show URow (W.setCell ⟨bA, 0, none⟩ (.int .i64 (kc + cs))) w4.heap.size Ax N cx (kHit xs s pre.length) from hU2.out)
    obtain ⟨f, hf⟩ : ∃ f : Nat → Int, f = fun i => B - kSum xs s pre.length i := ⟨_, rfl⟩
    rw [← hf] at hO2
    have hfb := hid (fun i => show -4096 ≤ f i ∧ f i ≤ 64 from by
     rw [hf]
     have h1 := hks.out i
     have h2 := hBb.out
     have h3 := hlh.out
     have h4 := hB.out
     show -4096 ≤ B - kSum xs s pre.length i ∧ B - kSum xs s pre.length i ≤ 64
     omega)
    have hfn := hid (fun q => show f q - kHit xs s pre.length q = B - kSum xs s (pre.length + 1) q from by rw [hf, kSum_succ]; show B - kSum xs s pre.length q - kHit xs s pre.length q = _; omega)
    obtain ⟨v, hv⟩ : ∃ v, v = kHit xs s pre.length := ⟨_, rfl⟩
    rw [← hv] at hUf hfn hkv
    replace hf := hid hf
    replace hv := hid hv
    clear hU2 hks hBb hst2
    gi_wp2
    generalize W.setCell ⟨bA, 0, none⟩ (.int .i64 (kc + cs)) = Wb at hA2 hO2 hB2 hst3 hUf ⊢
    gi_loopw [55] (fun iv wr => CoB Wb gO N f v iv wr) (fun iv _ => N - (intOf iv).toNat)
    case atStart => exact ⟨0, Nat.zero_le _, rfl, hO2.out.congr (fun q _ => by rw [if_neg (by omega)]), Chg.refl _ _⟩
    case round =>
     obtain ⟨i, hi, rfl, hOr, hcr⟩ := hrel
     rcases Nat.lt_or_ge i N with hin | hin
     ·have hi0 : (0 : Int) ≤ (i : Int) := by omega
      have hiI : (i : Int) < (N : Int) := by omega
      have hUr := own_chg hUf.out hcr (fun k hk e => by
       have h1 := (own_of hUf.out k hk).1
       have h2 : k = gO := e
       have := hbz.out.1; omega)
      obtain ⟨gx, ox, rfl, hgx, xx⟩ := URow.at_ hUr hin
      have hbr := hB2.out.chg hcr (fun e => absurd (show gO + 1 = gO from e) (by omega))
      have z0 := hbr.cell 0 (v := .slice (some ⟨gO, 0, none⟩) N N) rfl
      have zl := hbr.lt
      have o0 := hOr.cell hin
      have o1 := hOr.free i
      have ol := hOr.lt
      rw [if_neg (by omega)] at o0
      have hvi := hkv.out i
      have hfi := hfb.out i
      have hst4 := hid ((hOr.set i (f i - v i)).congr (f' := fun q => if q < i + 1 then f q - v q else f q) (fun q hq => cob_step q hq))
      have hC4' := hid (hcr.setOne i (.int .i64 (f i - v i)))
      obtain ⟨fi, hfd⟩ : ∃ fi, fi = f i := ⟨_, rfl⟩
      obtain ⟨vi, hvd⟩ : ∃ vi, vi = v i := ⟨_, rfl⟩
      rw [← hfd] at o0 hfi hst4 hC4'
      rw [← hvd] at xx hvi hst4 hC4'
      have hw1 : IntKind.i64.wrap (fi - vi) = fi - vi := by rw [IntKind.wrap_i64]; omega
      have hw2 : IntKind.i64.wrap vi = vi := by rw [IntKind.wrap_i64]; omega
      clear hbr hUr hOr hcr hfd hvd
      gi_wp2
      go_roundw
      case rel => exact ⟨i + 1, hin, by go_num, hst4.out, hC4'.out⟩
      case measure => simp [intOf]; omega
     ·obtain rfl : N = i := by omega
      have hd : decide ((N : Int) < (N : Int)) = false := decide_eq_false (by omega)
      gi_wp2
      refine ⟨hst3.out.trans (hcr.mono (fun _ _ e => .inl e)), hOr.congr (fun q hq => ?_), ?_, hchh.out.trans (hst3.out.trans (hcr.mono (fun _ _ e => .inl e)))⟩
      ·rw [if_pos hq, hfn.out q, List.length_append]; rfl
      ·have := hA2.out.chg hcr (fun e => absurd (show bA = gO from e) (by have := hz3.out; omega))
       rw [List.length_append, List.length_singleton, ← hkn.out]
       simpa using this
end Go.Proofs.YtoelilejohfglaaGreat
namespace Go.Proofs.YtoelilejohfglaaGreat
open Go.RowKit
set_option linter.unusedVariables false
set_option linter.unusedSimpArgs false
theorem symbCounts_any (F : Nat → Prop) (A : Option Addr) (n c : Nat) (xs : List Cls) (K : Int) (s : ByteArray) (size : Int) (w : World) (H : ClsRow F w A n c xs) (hF : ∀ k, F k → k < w.heap.size) (hl : xs.length = n) (hs : s.size ≤ 100000000) :
  Calls Tryz.prog 118 #[.agg #[.slice A n c, .int .i64 K], .string s, .int .i64 size] w fun e w' => GivesSym w.heap.size w' e (symY xs K s size) (symN xs K s size) (amiss xs K s.size size) ∧ Chg Nothing w w' := by
 by_cases hE : amiss xs K s.size size = 0
 ·obtain ⟨hr, hb⟩ := amiss_zero hE
  have hY : symY xs K s size = countsL xs s := by unfold symY; rw [if_pos hE]
  have hN : symN xs K s size = ((kindsL xs).length : Int) * countS n s.size size := by unfold symN; rw [if_pos hE, hl]
  rw [hY, hN, hE]
  rw [hl] at hb
  exact symbCounts_ok F A n c xs K s size w H hF hl hs hr hb
 ·exact symbCounts_bad F A n c xs K s size w H hl hE
theorem symbFind_any (F : Nat → Prop) (A : Option Addr) (n c : Nat) (xs : List Cls) (K : Int) (s : ByteArray) (size : Int) (w : World) (H : ClsRow F w A n c xs) (hF : ∀ k, F k → k < w.heap.size) (hl : xs.length = n) (hs : s.size ≤ 100000000) :
  Calls Tryz.prog 117 #[.agg #[.slice A n c, .int .i64 K], .string s, .int .i64 size] w fun e w' => GivesSym w.heap.size w' e (symF xs K s size) (symN xs K s size) (amiss xs K s.size size) ∧ Chg Nothing w w' := by
 have hX := Blk.new w #[.slice A n c, .int .i64 K] 34
 have x0 := hX.cell 0 (v := .slice A n c) rfl
 have x1 := hX.cell 1 (v := .int .i64 K) rfl
 have hlx := hX.lt
 have hw0 := hid ((Chg.refl Nothing w).alloc (.cells #[.slice A n c, .int .i64 K] 34))
 have hCo := hid (symbCounts_any F A n c xs K s size (w.alloc (.cells #[.slice A n c, .int .i64 K] 34)) (H.chg hw0.out (fun _ _ _ h => h)) (fun k hk => Nat.lt_of_lt_of_le (hF k hk) hw0.out.size) hl hs)
 have hyl := symY_len xs K s size
 have hEF := hid (fun (h : ¬ amiss xs K s.size size = 0) => (show symY xs K s size = [] ∧ symN xs K s size = 0 from by unfold symY symN; rw [if_neg h, if_neg h]; exact ⟨rfl, rfl⟩))
 unfold symF
 clear hX hl H hF
 generalize symY xs K s size = ys at *
 generalize symN xs K s size = num at *
 generalize amiss xs K s.size size = E at *
 by_cases hE : E = 0
 ·subst hE
  go_enter Tryz.func117, Tryz.ntmps117
  go_wp2_with fail
  refine hCo.out.mono ?_
  rintro e w1 ⟨⟨A1, c1, rfl, hO1⟩, hc1⟩
  have y0 := (hc1.cells.1 _ _ hlx).trans x0
  have y1 := (hc1.cells.1 _ _ hlx).trans x1
  have hC1 := hid (hw0.out.trans hc1)
  have hHi := hid (hits_M ys K A1 c1 w1 _ hO1 (by omega))
  clear x0 x1 hlx hc1 hO1
  go_wp2_with fail
  refine hHi.out.mono ?_
  rintro e w2 ⟨A2, c2, rfl, hO2, hc2⟩
  have hC2 := hid (hC1.out.trans hc2)
  have hb := hid hC1.out.size
  replace hO2 := hid hO2
  clear hc2 y0 y1
  go_wp2
  go_ret3
  exact ⟨⟨A2, c2, rfl, own_low hO2.out hb.out⟩, hC2.out⟩
 ·obtain ⟨rfl, rfl⟩ := hEF.out hE
  have hEb : (E == 0) = false := beq_eq_false_iff_ne.2 hE
  go_enter Tryz.func117, Tryz.ntmps117
  go_wp2_with fail
  refine hCo.out.mono ?_
  rintro e w1 ⟨⟨A1, c1, rfl, hO1⟩, hc1⟩
  have hC1 := hid (hw0.out.trans hc1)
  clear hc1 hO1
  go_wp2
  go_ret3
  exact ⟨⟨none, 0, rfl, World.ownsRow_nil _ _ _ _⟩, hC1.out⟩
end Go.Proofs.YtoelilejohfglaaGreat
