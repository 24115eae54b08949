/- Joined texts: EvD EvE EvF EvP MatF EvG. -/
import Derived.Test.YtoelilejohfglaaGreatBnJn
import Derived.Test.YtoelilejohfglaaGreatBunT
import Derived.Test.YtoelilejohfglaaGreatBunZ
import Derived.Test.YtoelilejohfglaaGreatBunF
import Derived.Test.YtoelilejohfglaaGreatBunR
import Derived.Deep.RegionHeld3
set_option maxHeartbeats 16000000
set_option maxRecDepth 100000
namespace Go.Proofs.YtoelilejohfglaaGreat
open Go.RowKit
set_option linter.unusedVariables false
set_option linter.unusedSimpArgs false
def evN (q : LP) (force size n : Int) : Int := countW q.p (evW q.p q.K force n size) n (evS q.p.length n size)
def allN (qs : List LP) (force size n : Int) : Int := (qs.map fun q => evN q force size n).sum
def rowsF (qs : List LP) (s : ByteArray) : List (List Int) := qs.map fun q => findM q.p q.K s
def evR (ps : List NP) (force size : Int) (s : ByteArray) : List Int := if evE ps force size = 0 ∧ s.size ≤ 100000 then joinL s.size (ps.map NP.x) (rowsF (leavesP ps) s) else []
def evC (ps : List NP) (force size : Int) (s : ByteArray) : Int := if evE ps force size = 0 ∧ s.size ≤ 100000 then allN (leavesP ps) force size s.size else 0
def evX (ps : List NP) (force size : Int) (s : ByteArray) : Int := if evE ps force size = 0 then (if s.size ≤ 100000 then 0 else 180) else evE ps force size
theorem leaf_ok {xs : List Cls} {K : Int} (h : rightB xs K = true) (force n size : Int) : mE xs K (evW xs K force n size) n (evS xs.length n size) = 0 := by
 rw [mE_zero]
 unfold evW
 by_cases hs : sizedM xs K force n (evS xs.length n size) = true
 ·rw [if_pos hs]; exact hs
 ·rw [if_neg hs]; exact choose_right h
theorem evE_right {ps : List NP} {force size : Int} (h : evE ps force size = 0) : rightN (ps.map NP.x) = true := by
 unfold evE at h
 cases hr : rightN (ps.map NP.x) with
 | true => rfl
 | false => rw [hr, if_pos (.inl rfl)] at h; omega
theorem leaves_right {ps : List NP} (h : rightN (ps.map NP.x) = true) : (leavesP ps).length ≤ 64 ∧ ∀ q ∈ leavesP ps, rightB q.p q.K = true := by
 unfold rightN at h
 simp only [Bool.and_eq_true, decide_eq_true_eq, List.all_eq_true] at h
 obtain ⟨⟨⟨h1, h2⟩, -⟩, -⟩ := h
 refine ⟨?_, fun q hq => ?_⟩
 ·unfold leavesP
  rw [List.length_map]
  refine Nat.le_trans (List.length_filter_le _ _) ?_
  rwa [List.length_map] at h1
 ·unfold leavesP at hq
  obtain ⟨p, hp, rfl⟩ := List.mem_map.1 hq
  obtain ⟨hp1, hp2⟩ := List.mem_filter.1 hp
  have h3 := h2 p.x (List.mem_map_of_mem hp1)
  unfold nodeD at h3
  have hk : p.x.kind = 1 := by simpa using hp2
  split at h3
  ·cases h3
  ·split at h3
   ·cases h3
   ·split at h3
    ·cases h3
    ·first | exact h3 | (rw [if_pos hk] at h3; exact h3)
theorem countW_bound {xs : List Cls} (h : xs.length ≤ 64) (way n size : Int) (hn : 0 ≤ n ∧ n ≤ 1000000000) : 0 ≤ countW xs way n size ∧ countW xs way n size ≤ 1000000000000 := by
 have hc := countS_bound xs.length n size hn.1 hn.2
 have hp := parts_le xs h
 unfold countW
 generalize countS xs.length n size = cs at hc ⊢
 split
 ·omega
 ·split
  ·have := mul_bound (a := ((kindsL xs).length : Int)) (b := cs) (x := 64) (y := 10000000000) (by omega) (by omega) hc.1 hc.2
   omega
  ·split
   ·have := mul_bound (a := (partsF xs : Int)) (b := cs) (x := 64) (y := 10000000000) (by omega) (by omega) hc.1 hc.2
    omega
   ·omega
theorem allN_bound {force size n : Int} (hn : 0 ≤ n ∧ n ≤ 1000000000) : ∀ (qs : List LP), (∀ q ∈ qs, rightB q.p q.K = true) → 0 ≤ allN qs force size n ∧ allN qs force size n ≤ 1000000000000 * qs.length := by
 intro qs
 induction qs with
 | nil => intro _; simp [allN]
 | cons q qs ih =>
  intro h
  have h1 := ih (fun q' hq' => h q' (by simp [hq']))
  have h2 := countW_bound (right_len (h q (by simp))).2 (evW q.p q.K force n size) n (evS q.p.length n size) hn
  have e : allN (q :: qs) force size n = evN q force size n + allN qs force size n := by unfold allN; rw [List.map_cons, List.sum_cons]
  rw [e]
  unfold evN
  simp only [List.length_cons]
  omega
theorem allN_snoc (qs : List LP) (q : LP) (force size n : Int) : allN (qs ++ [q]) force size n = allN qs force size n + evN q force size n := by
 unfold allN; rw [List.map_append, List.sum_append]; simp
theorem findM_fine (xs : List Cls) (K : Int) (s : ByteArray) (hs : s.size ≤ 1000000000) : (findM xs K s).length ≤ s.size + 1 ∧ ∀ z ∈ findM xs K s, z ≤ 9223372036854775807 := by
 have hle : sumsN xs K s.size ≤ s.size + 1 := by unfold sumsN; split <;> omega
 refine ⟨Nat.le_trans (fewTo_len _ _ _ _) hle, fun z hz => ?_⟩
 unfold findM fewTo at hz
 obtain ⟨i, hi, rfl⟩ := List.mem_map.1 hz
 have := List.mem_range.1 (List.mem_filter.1 hi).1
 omega
theorem rowsF_sum (s : ByteArray) (hs : s.size ≤ 1000000000) : ∀ (qs : List LP), sumR (rowsF qs s) ≤ qs.length * (s.size + 1) := by
 intro qs
 induction qs with
 | nil => simp [rowsF, sumR]
 | cons q qs ih =>
  have h1 := (findM_fine q.p q.K s hs).1
  have e : rowsF (q :: qs) s = findM q.p q.K s :: rowsF qs s := rfl
  rw [e, sumR_cons, List.length_cons, Nat.succ_mul]
  omega
structure FS (base : Nat) (X : Option Addr) (cx : Nat) (rs : List RP) (G : Nat → Prop) (w : World) : Prop where
 own : w.ownsRow base 37 1 (.slice X rs.length cx) rs.length (rs.map rpV)
 rin : ∀ r ∈ rs, RIn G w r
 gok : ∀ k, G k → k < w.heap.size ∧ ¬ Of X k
theorem FS.nil (base : Nat) (w : World) : FS base none 0 [] (fun _ => False) w := ⟨World.ownsRow_nil _ _ _ _, by simp, fun _ h => h.elim⟩
theorem FS.calm {base : Nat} {X : Option Addr} {cx : Nat} {rs : List RP} {G : Nat → Prop} {w w' : World} (h : FS base X cx rs G w) (hc : Chg Nothing w w') : FS base X cx rs G w' :=
 ⟨own_calm h.own hc, fun r hr => ElsAt.chg (h.rin r hr) hc (fun _ _ _ h => h), fun k hk => ⟨Nat.lt_of_lt_of_le (h.gok k hk).1 hc.size, (h.gok k hk).2⟩⟩
theorem FS.fresh {base : Nat} {X : Option Addr} {cx : Nat} {rs : List RP} {G : Nat → Prop} {w w' : World} (h : FS base X cx rs G w) (hc : Chg Nothing w w') {r : RP} (hr : w'.ownsRow w.heap.size 3 1 (.slice r.A r.l r.c) r.l (r.xs.map (Value.int .i64))) :
  FS base X cx rs (fun k => (G k ∨ w.heap.size ≤ k) ∧ k < w'.heap.size) w' ∧ RIn (fun k => (G k ∨ w.heap.size ≤ k) ∧ k < w'.heap.size) w' r := by
 have h1 := h.calm hc
 refine ⟨⟨h1.own, fun q hq => ElsAt.mono (h1.rin q hq) (fun k hk hg => ⟨.inl hg, hk⟩), fun k hk => ⟨hk.2, fun e => ?_⟩⟩, (ElsAt.of_own (d := (0 : Int)) hr).mono (fun k hk h => ⟨.inr h.2, hk⟩)⟩
 rcases hk.1 with hg | hg
 ·exact (h.gok k hg).2 e
 ·have := own_of h.own k e; omega
theorem FS.push {base : Nat} {X : Option Addr} {cx : Nat} {rs : List RP} {G : Nat → Prop} {w : World} (h : FS base X cx rs G w) {r : RP} (hr : RIn G w r) {X' : Option Addr} {cx' : Nat} {w' : World}
  (ho : w'.ownsRow base 37 1 (.slice X' (rs.length + 1) cx') (rs.length + 1) (rs.map rpV ++ [rpV r])) (hc : Chg (Of X) w w') (hA : ∀ k, Of X' k → Of X k ∨ w.heap.size ≤ k) : FS base X' cx' (rs ++ [r]) G w' := by
 refine ⟨by simpa using ho, fun q hq => ?_, fun k hk => ⟨Nat.lt_of_lt_of_le (h.gok k hk).1 hc.size, fun e => ?_⟩⟩
 ·rcases List.mem_append.1 hq with hq | hq
  ·exact ElsAt.chg (h.rin q hq) hc (fun k hk hg => (h.gok k hg).2)
  ·simp at hq; subst hq
   exact ElsAt.chg hr hc (fun k hk hg => (h.gok k hg).2)
 ·rcases hA k e with e | e
  ·exact (h.gok k hk).2 e
  ·have := (h.gok k hk).1; omega
theorem FS.rows {base : Nat} {X : Option Addr} {cx : Nat} {rs : List RP} {G : Nat → Prop} {w : World} (h : FS base X cx rs G w) : RRow (fun k => Of X k ∧ base ≤ k) G w X rs.length cx rs :=
 ⟨ElsAt.of_own (d := rp0) h.own, h.rin⟩
end Go.Proofs.YtoelilejohfglaaGreat
namespace Go.Proofs.YtoelilejohfglaaGreat
open Go.RowKit
set_option linter.unusedVariables false
set_option linter.unusedSimpArgs false
attribute [local go_sem ↓] Go.wp_at_zero Go.wp_at_succ
def EvInv (w : World) (ls : List LP) (force size : Int) (s : ByteArray) (ov av iv : Value) (wr : World) : Prop :=
 ∃ (k : Nat) (X : Option Addr) (cx : Nat) (rs : List RP) (G : Nat → Prop), k ≤ ls.length ∧ rs.length = k ∧ iv = .int .i64 k ∧ ov = .slice X rs.length cx ∧ av = .int .i64 (allN (ls.take k) force size s.size) ∧ Hid (rs.map RP.xs = rowsF (ls.take k) s) ∧ Hid (FS w.heap.size X cx rs G wr) ∧ Chg Nothing w wr
theorem evalEval_any (F : Nat → Prop) (A : Option Addr) (n c : Nat) (ps : List NP) (s : ByteArray) (force size : Int) (w : World) (H : NRow F w A n c ps) (hn : n ≤ 1000000) :
  Calls Tryz.prog 23 #[.slice A n c, .string s, .agg #[.int .i64 force, .int .i64 size]] w fun e w' => GivesSym w.heap.size w' e (evR ps force size s) (evC ps force size s) (evX ps force size s) ∧ Chg Nothing w w' := by
 have hX := hid (Blk.new w #[.int .i64 force, .int .i64 size] 29)
 have hw0 := hid ((Chg.refl Nothing w).alloc (.cells #[.int .i64 force, .int .i64 size] 29))
 have x0 := hX.out.cell 0 (v := .int .i64 force) rfl
 have x1 := hX.out.cell 1 (v := .int .i64 size) rfl
 have hCk := hid (fun (w' : World) (hc : Chg Nothing w w') => evalCheck_any F A n c ps force size w' (H.calm hc) hn)
 by_cases hE : evE ps force size = 0
 ·rw [hE] at hCk
  by_cases hs : s.size ≤ 100000
  ·have hb : ¬ ((100000 : Int) < (s.size : Int)) := by omega
   have r1 : evR ps force size s = joinL s.size (ps.map NP.x) (rowsF (leavesP ps) s) := by unfold evR; rw [if_pos ⟨hE, hs⟩]
   have r2 : evC ps force size s = allN (leavesP ps) force size s.size := by unfold evC; rw [if_pos ⟨hE, hs⟩]
   have r3 : evX ps force size s = 0 := by unfold evX; rw [if_pos hE, if_pos hs]
   rw [r1, r2, r3]
   obtain ⟨hl64, hlr⟩ := leaves_right (evE_right hE)
   have hLv := hid (fun (w' : World) (hc : Chg Nothing w w') => leaves_any F A n c ps w' (H.calm hc) hn)
   have hHH := hid (fun (w' : World) (hc : Chg Nothing w w') => H.calm hc)
   unfold LvAns at hLv
   obtain ⟨ls, hls⟩ : ∃ ls, leavesP ps = ls := ⟨_, rfl⟩
   rw [hls] at hLv hl64 hlr ⊢
   have hlrh := hid hlr
   have hsh := hid hs
   replace hls := hid hls
   obtain ⟨V, hV⟩ : ∃ V, joinL s.size (ps.map NP.x) (rowsF ls s) = V := ⟨_, rfl⟩
   obtain ⟨W, hW⟩ : ∃ W, allN ls force size s.size = W := ⟨_, rfl⟩
   rw [hV, hW]
   replace hV := hid hV
   replace hW := hid hW
   clear H hE hs r1 r2 r3 hlr
   go_enter Tryz.func23, Tryz.ntmps23
   go_wp2_with fail
   refine (hCk.out _ hw0.out).mono ?_
   rintro e w1 ⟨rfl, hc1⟩
   have hX1 := hid (hX.out.chg hc1 id)
   have hC1 := hid (hw0.out.trans hc1)
   clear hc1 x0 x1
   go_wp2_with fail
   refine (hLv.out _ hC1.out).mono ?_
   rintro e w2 ⟨B, j, d, rfl, hLR, -, hc2⟩
   have hX2 := hid (hX1.out.chg hc2 id)
   have hC2 := hid (hC1.out.trans hc2)
   have hjl := hLR.len
   have hLRh := hid (fun (w' : World) (hc : Chg Nothing w2 w') => hLR.calm hc)
   have hle := hLR.row.le
   have hmx := hLR.row.max
   clear hc2 hLR
   go_wp2_with fail
   go_loopw [10, 11, 31] (fun ov av iv wr => EvInv w2 ls force size s ov av iv wr) (fun _ _ iv _ => j - (intOf iv).toNat)
   case atStart => exact ⟨0, none, 0, [], fun _ => False, Nat.zero_le _, rfl, rfl, rfl, rfl, hid rfl, hid (FS.nil _ _), Chg.refl _ _⟩
   case round =>
    obtain ⟨k, X, cx, rs, G, hk, hrk, rfl, rfl, rfl, hmap, hFS, hchg2⟩ := hrel
    rw [hjl] at hk
    have hCr2 := hid hchg2
    have hXr := hid (hX2.out.chg hchg2 id)
    clear hchg2
    rcases Nat.lt_or_ge k j with hkn | hkn
    ·obtain ⟨g, o, q, rfl, -, hgl, hq, hqm, hqr, c0, c1⟩ := (hLRh.out _ hCr2.out).two hkn
     have hql := hqr.len
     rw [← hql] at c0
     have hrq := hlrh.out q hqm
     have h64 := right_len hrq
     have htk := hid (show ls.take (k + 1) = ls.take k ++ [q] from by rw [List.take_succ_eq_append_getElem (by rw [hjl]; exact hkn), hq]; simp [hjl, hkn])
     have hYL := hid (hXr.out.alloc (.cells #[.slice q.A q.p.length q.c, .int .i64 q.K] 34))
     have hZL := hid (Blk.new wr #[.slice q.A q.p.length q.c, .int .i64 q.K] 34)
     have y0 := hYL.out.cell 0 (v := .int .i64 force) rfl
     have y1 := hYL.out.cell 1 (v := .int .i64 size) rfl
     have z0 := hZL.out.cell 0 (v := .slice q.A q.p.length q.c) rfl
     have z1 := hZL.out.cell 1 (v := .int .i64 q.K) rfl
     have hcA := hid ((Chg.refl Nothing wr).alloc (.cells #[.slice q.A q.p.length q.c, .int .i64 q.K] 34))
     have hrow : ClsRow (fun k => k < (wr.alloc (.cells #[.slice q.A q.p.length q.c, .int .i64 q.K] 34)).heap.size) (wr.alloc (.cells #[.slice q.A q.p.length q.c, .int .i64 q.K] 34)) q.A q.p.length q.c q.p := hql ▸ ((hqr.row.chg hcA.out (fun _ _ _ h => h)).mono (fun k hk _ => hk))
     have hLf := evalLeaf_any _ q.A q.p.length q.c q.p q.K force size s _ hrow (fun k hk => hk) rfl (by omega) (by have := hsh.out; omega)
     have hok := leaf_ok hrq force s.size size
     have m1 : mF q.p q.K (evW q.p q.K force s.size size) s (evS q.p.length s.size size) = findM q.p q.K s := by unfold mF; rw [if_pos hok]
     have m2 : mN q.p q.K (evW q.p q.K force s.size size) s.size (evS q.p.length s.size size) = evN q force size s.size := by unfold mN; rw [if_pos hok]; rfl
     rw [m1, m2, hok] at hLf
     have hLfh := hid hLf
     have hsum := hid (allN_snoc (ls.take k) q force size s.size)
     have hb1 := allN_bound (force := force) (size := size) (n := (s.size : Int)) ⟨by omega, by have := hsh.out; omega⟩ (ls.take k) (fun q' hq' => hlrh.out q' (List.mem_of_mem_take hq'))
     have hb2 := countW_bound h64.2 (evW q.p q.K force s.size size) s.size (evS q.p.length s.size size) ⟨by omega, by have := hsh.out; omega⟩
     have hltk : (ls.take k).length ≤ 64 := by rw [List.length_take]; omega
     obtain ⟨ys, hys⟩ : ∃ ys, findM q.p q.K s = ys := ⟨_, rfl⟩
     have hmap2 := hid (show rs.map RP.xs ++ [ys] = rowsF (ls.take (k + 1)) s from by rw [hmap.out, htk.out, ← hys]; unfold rowsF; rw [List.map_append]; rfl)
     rw [hys] at hLfh
     obtain ⟨num, hnum⟩ : ∃ num, evN q force size s.size = num := ⟨_, rfl⟩
     rw [hnum] at hLfh hsum
     unfold evN at hnum
     rw [hnum] at hb2
     obtain ⟨av, hav⟩ : ∃ av, allN (ls.take k) force size s.size = av := ⟨_, rfl⟩
     rw [hav] at hsum hb1 ⊢
     have hwv : IntKind.i64.wrap (av + num) = av + num := by rw [IntKind.wrap_i64]; omega
     have hk0 : (0 : Int) ≤ (k : Int) := by omega
     have hkn' : (k : Int) < (j : Int) := by omega
     have hrl : rs.length ≤ 64 := by omega
     replace hys := hid hys
     replace hnum := hid hnum
     replace hav := hid hav
     replace hq := hid hq
     replace hrk := hid hrk
     replace hql' := hid hql
     replace hb1 := hid hb1
     replace hb2 := hid hb2
     replace hjl := hid hjl
     clear hLf hok m1 m2 hrow hqr hqm hrq h64 hltk hql hk
     go_wp2_with fail
     refine hLfh.out.mono ?_
     rintro e w4 ⟨⟨A4, c4, rfl, hO4⟩, hc4⟩
     have hc4' := hcA.out.trans hc4
     obtain ⟨hF4, hr4⟩ := hFS.out.fresh (r := ⟨ys, A4, ys.length, c4⟩) hc4' (own_base_mono hO4 hcA.out.size)
     have hF4h := hid hF4
     have hr4h := hid hr4
     have hC42 := hid (hCr2.out.trans hc4')
     have hs4 := hid hC42.out.size
     clear hc4 hc4' hO4 hF4 hr4 y0 y1 z0 z1 c0 c1
     go_wp2_with (at_builtin; refine append_one rfl _ _ 43 rfl w2.heap.size 37 (.slice none 0 0) 24 Tryz.underlying43 infoRR rfl X cx rs.length _ rfl hF4h.out.own (.slice A4 ys.length c4) rfl rfl ?_ ?_ ?_ ?_)
     ·omega
     ·omega
     ·exact hs4.out
     intro A8 c8 w8 hO8 hc8 hA8
     have hPu := hid (hF4h.out.push hr4h.out hO8 hc8 hA8)
     have hC82 := hid (Chg.then hC42.out hc8 (fun j hj e => absurd (own_of hF4h.out.own j e).1 (by omega)))
     clear hO8 hc8 hA8
     go_wp2
     go_roundw
     case rel => exact ⟨k + 1, A8, c8, rs ++ [⟨ys, A4, ys.length, c4⟩], _, by rw [hjl.out]; exact hkn, by rw [List.length_append, hrk.out]; rfl, by go_num, by rw [List.length_append]; rfl, by rw [htk.out, hsum.out], hid (by rw [List.map_append]; exact hmap2.out), hPu, hC82.out⟩
     case measure => simp [intOf]; omega
    ·obtain rfl : k = j := by omega
     have hd : decide ((k : Int) < (k : Int)) = false := decide_eq_false (by omega)
     have htk : ls.take k = ls := List.take_of_length_le (by rw [hjl]; exact Nat.le_refl _)
     rw [htk] at hmap ⊢
     have hsm : sumR (rs.map RP.xs) ≤ 100000000000 := by
      rw [hmap.out]
      have h1 := rowsF_sum s (by have := hsh.out; omega) ls
      have h2 := Nat.mul_le_mul hl64 (show s.size + 1 ≤ 100001 from by have := hsh.out; omega)
      omega
     have hzz : ∀ q ∈ rs, ∀ z ∈ q.xs, z ≤ 9223372036854775807 := fun q hq z hz => by
      have h1 : q.xs ∈ rowsF ls s := by rw [← hmap.out]; exact List.mem_map_of_mem hq
      obtain ⟨l, hl, e⟩ := List.mem_map.1 h1
      rw [← e] at hz
      exact (findM_fine l.p l.K s (by have := hsh.out; omega)).2 z hz
     have hRw := hFS.out.rows
     have hJn := evalJoin_any F _ G A n c ps X rs.length cx rs s.size wr (hHH.out wr (hC2.out.trans hCr2.out)) hn hRw (fun k hk => (hFS.out.gok k hk).1) (by omega) hzz hsm
     unfold JoinAns at hJn
     rw [hmap.out, hV.out] at hJn
     have hJnh := hid hJn
     rw [hW.out]
     clear hJn hRw hzz hsm htk
     replace hrk := hid hrk
     go_wp2_with fail
     refine hJnh.out.mono ?_
     rintro e w5 ⟨A5, c5, rfl, hO5, hc5⟩
     have hCe := hid ((hC2.out.trans hCr2.out).trans hc5)
     have hO5h := hid (own_base_mono hO5 (hC2.out.trans hCr2.out).size)
     clear hc5 hO5
     go_wp2
     go_ret3
     exact ⟨⟨A5, c5, rfl, hO5h.out⟩, hCe.out⟩
  ·have hb : (100000 : Int) < (s.size : Int) := by omega
   have r1 : evR ps force size s = [] := by unfold evR; rw [if_neg (fun h => hs h.2)]
   have r2 : evC ps force size s = 0 := by unfold evC; rw [if_neg (fun h => hs h.2)]
   have r3 : evX ps force size s = 180 := by unfold evX; rw [if_pos hE, if_neg hs]
   rw [r1, r2, r3]
   clear H hE hs r1 r2 r3
   go_enter Tryz.func23, Tryz.ntmps23
   go_wp2_with fail
   refine (hCk.out _ hw0.out).mono ?_
   rintro e w1 ⟨rfl, hc1⟩
   have hC1 := hid (hw0.out.trans hc1)
   clear hc1 x0 x1
   go_wp2
   go_ret3
   exact ⟨⟨none, 0, rfl, World.ownsRow_nil _ _ _ _⟩, hC1.out⟩
 ·have r1 : evR ps force size s = [] := by unfold evR; rw [if_neg (fun h => hE h.1)]
  have r2 : evC ps force size s = 0 := by unfold evC; rw [if_neg (fun h => hE h.1)]
  have r3 : evX ps force size s = evE ps force size := by unfold evX; rw [if_neg hE]
  rw [r1, r2, r3]
  have hb : (evE ps force size != 0) = true := bne_iff_ne.2 hE
  generalize evE ps force size = E at hb hCk ⊢
  clear H hE r1 r2 r3
  go_enter Tryz.func23, Tryz.ntmps23
  go_wp2_with fail
  refine (hCk.out _ hw0.out).mono ?_
  rintro e w1 ⟨rfl, hc1⟩
  have hC1 := hid (hw0.out.trans hc1)
  clear hc1 x0 x1
  go_wp2
  go_ret3
  exact ⟨⟨none, 0, rfl, World.ownsRow_nil _ _ _ _⟩, hC1.out⟩
end Go.Proofs.YtoelilejohfglaaGreat
namespace Go.Proofs.YtoelilejohfglaaGreat
open Go.RowKit
set_option linter.unusedVariables false
set_option linter.unusedSimpArgs false
theorem intsFlat {f : FuncId} {args : Array Value} {w : World} {ys : List Int} (h : Calls Tryz.prog f args w fun e w' => GivesI w.heap.size w' e ys ∧ Chg Nothing w w') : Calls Tryz.prog f args w fun e w' => ∃ A c, e = .returned (.slice A ys.length c) ∧ IRow w' w.heap.size A ys.length c ys ∧ Chg Nothing w w' :=
 h.mono (fun e w' ⟨⟨A, c, h1, h2⟩, h3⟩ => ⟨A, c, h1, h2, h3⟩)
def OcInv (w : World) (ls : List LP) (s : ByteArray) (ov iv : Value) (wr : World) : Prop :=
 ∃ (k : Nat) (X : Option Addr) (cx : Nat) (rs : List RP) (G : Nat → Prop), k ≤ ls.length ∧ rs.length = k ∧ iv = .int .i64 k ∧ ov = .slice X rs.length cx ∧ Hid (rs.map RP.xs = rowsF (ls.take k) s) ∧ Hid (FS w.heap.size X cx rs G wr) ∧ Chg Nothing w wr
def OccAns (V : List Int) (w : World) (e : Ending) (w' : World) : Prop := ∃ A c, e = .returned (.slice A V.length c) ∧ Rd18 w' A c V ∧ Chg Nothing w w'
theorem refOcc_any (F : Nat → Prop) (A : Option Addr) (n c : Nat) (ps : List NP) (s : ByteArray) (w : World) (H : NRow F w A n c ps) (hn : n ≤ 1000000) (hr : rightN (ps.map NP.x) = true) (hs : s.size ≤ 100000) :
  Calls Tryz.prog 55 #[.slice A n c, .string s] w (OccAns (joinL s.size (ps.map NP.x) (rowsF (leavesP ps) s)) w) := by
 obtain ⟨hl64, hlr⟩ := leaves_right hr
 have hLv := hid (refLeaves_any F A n c ps w H hn)
 have hHH := hid (fun (w' : World) (hc : Chg Nothing w w') => H.calm hc)
 unfold LvAns at hLv
 obtain ⟨ls, hls⟩ : ∃ ls, leavesP ps = ls := ⟨_, rfl⟩
 rw [hls] at hLv hl64 hlr ⊢
 have hlrh := hid hlr
 have hsh := hid hs
 replace hls := hid hls
 obtain ⟨V, hV⟩ : ∃ V, joinL s.size (ps.map NP.x) (rowsF ls s) = V := ⟨_, rfl⟩
 rw [hV]
 replace hV := hid hV
 clear H hs hlr hr
 go_enter Tryz.func55, Tryz.ntmps55
 go_wp2_with fail
 refine hLv.out.mono ?_
 rintro e w2 ⟨B, j, d, rfl, hLR, -, hc2⟩
 have hC2 := hid hc2
 have hjl := hLR.len
 have hLRh := hid (fun (w' : World) (hc : Chg Nothing w2 w') => hLR.calm hc)
 have hle := hLR.row.le
 have hmx := hLR.row.max
 clear hc2 hLR
 go_wp2_with fail
 go_loopw [6, 7] (fun ov iv wr => OcInv w2 ls s ov iv wr) (fun _ iv _ => j - (intOf iv).toNat)
 case atStart => exact ⟨0, none, 0, [], fun _ => False, Nat.zero_le _, rfl, rfl, rfl, hid rfl, hid (FS.nil _ _), Chg.refl _ _⟩
 case round =>
  obtain ⟨k, X, cx, rs, G, hk, hrk, rfl, rfl, hmap, hFS, hchg2⟩ := hrel
  rw [hjl] at hk
  have hCr2 := hid hchg2
  clear hchg2
  rcases Nat.lt_or_ge k j with hkn | hkn
  ·obtain ⟨g, o, q, rfl, -, hgl, hq, hqm, hqr, c0, c1⟩ := (hLRh.out _ hCr2.out).two hkn
   have hql := hqr.len
   rw [← hql] at c0
   have hrq := hlrh.out q hqm
   have h64 := right_len hrq
   have htk := hid (show ls.take (k + 1) = ls.take k ++ [q] from by rw [List.take_succ_eq_append_getElem (by rw [hjl]; exact hkn), hq]; simp [hjl, hkn])
   have hrow : ClsRow (fun k => F k ∨ w.heap.size ≤ k) wr q.A q.p.length q.c q.p := hql ▸ hqr.row
   have hFn := hid (intsFlat (show Calls Tryz.prog 75 #[.agg #[.slice q.A q.p.length q.c, .int .i64 q.K], .string s] wr fun e w'' => GivesI wr.heap.size w'' e (findM q.p q.K s) ∧ Chg Nothing wr w'' from hits_few q.p q.K s ▸ (refFind8_any _ q.A q.p.length q.c q.p q.K s wr hrow rfl (by have := hsh.out; omega))))
   obtain ⟨ys, hys⟩ : ∃ ys, findM q.p q.K s = ys := ⟨_, rfl⟩
   have hmap2 := hid (show rs.map RP.xs ++ [ys] = rowsF (ls.take (k + 1)) s from by rw [hmap.out, htk.out, ← hys]; unfold rowsF; rw [List.map_append]; rfl)
   rw [hys] at hFn
   have hk0 : (0 : Int) ≤ (k : Int) := by omega
   have hkn' : (k : Int) < (j : Int) := by omega
   have hrl : rs.length ≤ 64 := by omega
   replace hys := hid hys
   replace hq := hid hq
   replace hrk := hid hrk
   replace hjl := hid hjl
   clear hrow hqr hqm hrq h64 hql hk
   go_wp2_with fail
   refine hFn.out.mono ?_
   rintro e w4 ⟨A4, c4, rfl, hO4, hc4⟩
   obtain ⟨hF4, hr4⟩ := hFS.out.fresh (r := ⟨ys, A4, ys.length, c4⟩) hc4 hO4
   have hF4h := hid hF4
   have hr4h := hid hr4
   have hC42 := hid (hCr2.out.trans hc4)
   have hs4 := hid hC42.out.size
   clear hc4 hO4 hF4 hr4 c0 c1
   go_wp2_with (at_builtin; refine append_one rfl _ _ 43 rfl w2.heap.size 37 (.slice none 0 0) 24 Tryz.underlying43 infoRR rfl X cx rs.length _ rfl hF4h.out.own (.slice A4 ys.length c4) rfl rfl ?_ ?_ ?_ ?_)
   ·omega
   ·omega
   ·exact hs4.out
   intro A8 c8 w8 hO8 hc8 hA8
   have hPu := hid (hF4h.out.push hr4h.out hO8 hc8 hA8)
   have hC82 := hid (Chg.then hC42.out hc8 (fun j hj e => absurd (own_of hF4h.out.own j e).1 (by omega)))
   have hwk : IntKind.i64.wrap ((k : Int) + 1) = (k : Int) + 1 := by rw [IntKind.wrap_i64]; omega
   clear hO8 hc8 hA8
   go_wp2
   go_roundw
   case rel => exact ⟨k + 1, A8, c8, rs ++ [⟨ys, A4, ys.length, c4⟩], _, by rw [hjl.out]; exact hkn, by rw [List.length_append, hrk.out]; rfl, by go_num, by rw [List.length_append]; rfl, hid (by rw [List.map_append]; exact hmap2.out), hPu, hC82.out⟩
   case measure => simp [intOf]; omega
  ·obtain rfl : k = j := by omega
   have hd : decide ((k : Int) < (k : Int)) = false := decide_eq_false (by omega)
   have htk : ls.take k = ls := List.take_of_length_le (by rw [hjl]; exact Nat.le_refl _)
   rw [htk] at hmap
   have hsm : sumR (rs.map RP.xs) ≤ 100000000000 := by
    rw [hmap.out]
    have h1 := rowsF_sum s (by have := hsh.out; omega) ls
    have h2 := Nat.mul_le_mul hl64 (show s.size + 1 ≤ 100001 from by have := hsh.out; omega)
    omega
   have hzz : ∀ q ∈ rs, ∀ z ∈ q.xs, z ≤ 9223372036854775807 := fun q hq z hz => by
    have h1 : q.xs ∈ rowsF ls s := by rw [← hmap.out]; exact List.mem_map_of_mem hq
    obtain ⟨l, hl, e⟩ := List.mem_map.1 h1
    rw [← e] at hz
    exact (findM_fine l.p l.K s (by have := hsh.out; omega)).2 z hz
   have hRw := hFS.out.rows
   have hJn := refJoin18_any F _ G A n c ps X rs.length cx rs s.size wr (hHH.out wr (hC2.out.trans hCr2.out)) hn hRw (by omega) hzz hsm
   unfold RJoinAns at hJn
   rw [hmap.out, hV.out] at hJn
   have hJnh := hid hJn
   clear hJn hRw hzz hsm htk
   replace hrk := hid hrk
   go_wp2_with fail
   refine hJnh.out.mono ?_
   rintro e w5 ⟨A5, c5, rfl, hR5, hc5⟩
   have hCe := hid ((hC2.out.trans hCr2.out).trans hc5)
   have hR5h := hid hR5
   clear hc5 hR5
   go_wp2
   go_ret
   exact ⟨A5, c5, rfl, hR5h.out, hCe.out⟩
def ReInv (w : World) (ls : List LP) (force size : Int) (s : ByteArray) (av iv : Value) (wr : World) : Prop :=
 ∃ k : Nat, k ≤ ls.length ∧ iv = .int .i64 k ∧ av = .int .i64 (allN (ls.take k) force size s.size) ∧ Chg Nothing w wr
def REvalAns (V : List Int) (C E : Int) (w : World) (e : Ending) (w' : World) : Prop := ∃ A c, e = .returned (.tuple #[.slice A V.length c, .int .i64 C, .int .i64 E]) ∧ Rd18 w' A c V ∧ Chg Nothing w w'
theorem refEval18_any (F : Nat → Prop) (A : Option Addr) (n c : Nat) (ps : List NP) (s : ByteArray) (force size : Int) (w : World) (H : NRow F w A n c ps) (hn : n ≤ 1000000) :
  Calls Tryz.prog 24 #[.slice A n c, .string s, .agg #[.int .i64 force, .int .i64 size]] w (REvalAns (evR ps force size s) (evC ps force size s) (evX ps force size s) w) := by
 have hX := hid (Blk.new w #[.int .i64 force, .int .i64 size] 24)
 have hw0 := hid ((Chg.refl Nothing w).alloc (.cells #[.int .i64 force, .int .i64 size] 24))
 have x0 := hX.out.cell 0 (v := .int .i64 force) rfl
 have x1 := hX.out.cell 1 (v := .int .i64 size) rfl
 have hCk := hid (fun (w' : World) (hc : Chg Nothing w w') => refCheck18_any F A n c ps force size w' (H.calm hc) hn)
 by_cases hE : evE ps force size = 0
 ·rw [hE] at hCk
  by_cases hs : s.size ≤ 100000
  ·have hb : ¬ ((100000 : Int) < (s.size : Int)) := by omega
   have r1 : evR ps force size s = joinL s.size (ps.map NP.x) (rowsF (leavesP ps) s) := by unfold evR; rw [if_pos ⟨hE, hs⟩]
   have r2 : evC ps force size s = allN (leavesP ps) force size s.size := by unfold evC; rw [if_pos ⟨hE, hs⟩]
   have r3 : evX ps force size s = 0 := by unfold evX; rw [if_pos hE, if_pos hs]
   rw [r1, r2, r3]
   have hr := evE_right hE
   have hOc := hid (fun (w' : World) (hc : Chg Nothing w w') => refOcc_any F A n c ps s w' (H.calm hc) hn hr hs)
   obtain ⟨hl64, hlr⟩ := leaves_right hr
   have hLv := hid (fun (w' : World) (hc : Chg Nothing w w') => refLeaves_any F A n c ps w' (H.calm hc) hn)
   unfold LvAns at hLv
   obtain ⟨ls, hls⟩ : ∃ ls, leavesP ps = ls := ⟨_, rfl⟩
   rw [hls] at hLv hl64 hlr hOc ⊢
   have hlrh := hid hlr
   have hsh := hid hs
   replace hls := hid hls
   obtain ⟨V, hV⟩ : ∃ V, joinL s.size (ps.map NP.x) (rowsF ls s) = V := ⟨_, rfl⟩
   obtain ⟨W, hW⟩ : ∃ W, allN ls force size s.size = W := ⟨_, rfl⟩
   rw [hV] at hOc
   rw [hV, hW]
   unfold OccAns at hOc
   replace hV := hid hV
   replace hW := hid hW
   clear H hE hs r1 r2 r3 hlr hr
   go_enter Tryz.func24, Tryz.ntmps24
   go_wp2_with fail
   refine (hCk.out _ hw0.out).mono ?_
   rintro e w1 ⟨rfl, hc1⟩
   have hX1 := hid (hX.out.chg hc1 id)
   have hC1 := hid (hw0.out.trans hc1)
   clear hc1 x0 x1
   go_wp2_with fail
   refine (hLv.out _ hC1.out).mono ?_
   rintro e w2 ⟨B, j, d, rfl, hLR, -, hc2⟩
   have hX2 := hid (hX1.out.chg hc2 id)
   have hC2 := hid (hC1.out.trans hc2)
   have hjl := hLR.len
   have hLRh := hid (fun (w' : World) (hc : Chg Nothing w2 w') => hLR.calm hc)
   have hle := hLR.row.le
   have hmx := hLR.row.max
   clear hc2 hLR
   go_wp2_with fail
   go_loopw [11, 12] (fun av iv wr => ReInv w2 ls force size s av iv wr) (fun _ iv _ => j - (intOf iv).toNat)
   case atStart => exact ⟨0, Nat.zero_le _, rfl, rfl, Chg.refl _ _⟩
   case round =>
    obtain ⟨k, hk, rfl, rfl, hchg2⟩ := hrel
    rw [hjl] at hk
    have hCr2 := hid hchg2
    have hXr := hid (hX2.out.chg hchg2 id)
    clear hchg2
    rcases Nat.lt_or_ge k j with hkn | hkn
    ·obtain ⟨g, o, q, rfl, -, hgl, hq, hqm, hqr, c0, c1⟩ := (hLRh.out _ hCr2.out).two hkn
     have hql := hqr.len
     rw [← hql] at c0
     have hrq := hlrh.out q hqm
     have h64 := right_len hrq
     have htk := hid (show ls.take (k + 1) = ls.take k ++ [q] from by rw [List.take_succ_eq_append_getElem (by rw [hjl]; exact hkn), hq]; simp [hjl, hkn])
     have hrow := hid (fun (w' : World) (hc : Chg Nothing wr w') => (show ClsRow _ w' q.A q.p.length q.c q.p from hql ▸ hqr.row.chg hc (fun _ _ _ h => h)))
     have hsz9 : s.size ≤ 100000 := hsh.out
     have hWy := hid (fun (w' : World) (hc : Chg Nothing wr w') => ref18Way_any _ q.A q.p.length q.c q.p q.K s.size force size w' (hrow.out w' hc) rfl (by omega))
     have hSz := hid (fun (w' : World) => ref18Size_any q.A q.p.length q.c q.K s.size force size w')
     have hCo := hid (fun (w' : World) (hc : Chg Nothing wr w') => refCount17_any _ q.A q.p.length q.c q.p q.K (evW q.p q.K force s.size size) s.size (evS q.p.length s.size size) w' (hrow.out w' hc) rfl (by omega) (by omega))
     have hsum := hid (allN_snoc (ls.take k) q force size s.size)
     have hb1 := allN_bound (force := force) (size := size) (n := (s.size : Int)) ⟨by omega, by omega⟩ (ls.take k) (fun q' hq' => hlrh.out q' (List.mem_of_mem_take hq'))
     have hb2 := countW_bound h64.2 (evW q.p q.K force s.size size) s.size (evS q.p.length s.size size) ⟨by omega, by omega⟩
     have hltk : (ls.take k).length ≤ 64 := by rw [List.length_take]; omega
     obtain ⟨num, hnum⟩ : ∃ num, evN q force size s.size = num := ⟨_, rfl⟩
     rw [hnum] at hsum
     unfold evN at hnum
     rw [hnum] at hb2 hCo
     generalize evW q.p q.K force s.size size = way at hWy hCo hnum
     generalize evS q.p.length s.size size = z at hSz hCo hnum
     obtain ⟨av, hav⟩ : ∃ av, allN (ls.take k) force size s.size = av := ⟨_, rfl⟩
     rw [hav] at hsum hb1 ⊢
     have hwv : IntKind.i64.wrap (av + num) = av + num := by rw [IntKind.wrap_i64]; omega
     have hwk : IntKind.i64.wrap ((k : Int) + 1) = (k : Int) + 1 := by rw [IntKind.wrap_i64]; omega
     have hk0 : (0 : Int) ≤ (k : Int) := by omega
     have hkn' : (k : Int) < (j : Int) := by omega
     have hxl := hXr.out.lt
     have y0 := Calm.cell hxl (hXr.out.cell 0 (v := .int .i64 force) rfl)
     have y1 := Calm.cell hxl (hXr.out.cell 1 (v := .int .i64 size) rfl)
     have z0 := Calm.cell hgl c0
     have z1 := Calm.cell hgl c1
     have hjl2 := hid hjl
     replace hnum := hid hnum
     replace hav := hid hav
     replace hq := hid hq
     replace hb1 := hid hb1
     replace hb2 := hid hb2
     clear hqr hqm hrq h64 hltk hql hk hrow hsz9 hjl c0 c1
     go_wp2_with fail
     try simp only [List.append_eq, List.cons_append, List.nil_append]
     refine wp_region_calm_lit (by kernel_rfl) (by kernel_rfl) ?_
     repeat (go_big_quiet_step (((first | (go_at_call 16; exact calm_of (hWy.out _ (Calm.chg _))) | (go_at_call 14; exact calm_of (hSz.out _)) | (go_at_call 54; exact calm_of (hCo.out _ (Calm.chg _)))))))
     refine wpQuiet_nil ?_
     intro _ hw'
     obtain ⟨nq, hw''⟩ := hw'
     subst hw''
     have hC9 := hid (hCr2.out.trans nq.chg)
     clear y0 y1 z0 z1
     go_wp2
     go_roundw
     case rel => exact ⟨k + 1, by rw [hjl2.out]; exact hkn, by go_num, by rw [htk.out, hsum.out], hC9.out⟩
     case measure => simp [intOf]; omega
    ·obtain rfl : k = j := by omega
     have hd : decide ((k : Int) < (k : Int)) = false := decide_eq_false (by omega)
     have htk : ls.take k = ls := List.take_of_length_le (by rw [hjl]; exact Nat.le_refl _)
     rw [htk, hW.out]
     have hjl2 := hid hjl
     clear htk hjl
     go_wp2_with fail
     refine (hOc.out _ (hC2.out.trans hCr2.out)).mono ?_
     rintro e w5 ⟨A5, c5, rfl, hR5, hc5⟩
     have hCe := hid ((hC2.out.trans hCr2.out).trans hc5)
     have hR5h := hid hR5
     clear hc5 hR5
     go_wp2
     go_ret3
     exact ⟨A5, c5, rfl, hR5h.out, hCe.out⟩
  ·have hb : (100000 : Int) < (s.size : Int) := by omega
   have r1 : evR ps force size s = [] := by unfold evR; rw [if_neg (fun h => hs h.2)]
   have r2 : evC ps force size s = 0 := by unfold evC; rw [if_neg (fun h => hs h.2)]
   have r3 : evX ps force size s = 180 := by unfold evX; rw [if_pos hE, if_neg hs]
   rw [r1, r2, r3]
   clear H hE hs r1 r2 r3
   go_enter Tryz.func24, Tryz.ntmps24
   go_wp2_with fail
   refine (hCk.out _ hw0.out).mono ?_
   rintro e w1 ⟨rfl, hc1⟩
   have hC1 := hid (hw0.out.trans hc1)
   clear hc1 x0 x1
   go_wp2
   go_ret3
   exact ⟨none, 0, rfl, ElsAt.nil _ _, hC1.out⟩
 ·have r1 : evR ps force size s = [] := by unfold evR; rw [if_neg (fun h => hE h.1)]
  have r2 : evC ps force size s = 0 := by unfold evC; rw [if_neg (fun h => hE h.1)]
  have r3 : evX ps force size s = evE ps force size := by unfold evX; rw [if_neg hE]
  rw [r1, r2, r3]
  have hb : (evE ps force size != 0) = true := bne_iff_ne.2 hE
  generalize evE ps force size = E at hb hCk ⊢
  clear H hE r1 r2 r3
  go_enter Tryz.func24, Tryz.ntmps24
  go_wp2_with fail
  refine (hCk.out _ hw0.out).mono ?_
  rintro e w1 ⟨rfl, hc1⟩
  have hC1 := hid (hw0.out.trans hc1)
  clear hc1 x0 x1
  go_wp2
  go_ret3
  exact ⟨none, 0, rfl, ElsAt.nil _ _, hC1.out⟩
theorem findM_mem {xs : List Cls} {K : Int} {s : ByteArray} {z : Int} : z ∈ findM xs K s ↔ ∃ i : Nat, z = (i : Int) ∧ rightB xs K = true ∧ i + xs.length ≤ s.size ∧ missN xs s i ≤ K := by
 unfold findM fewTo sumsN
 constructor
 ·intro h
  obtain ⟨i, hi, rfl⟩ := List.mem_map.1 h
  obtain ⟨h1, h2⟩ := List.mem_filter.1 hi
  have h1 := List.mem_range.1 h1
  by_cases hr : rightB xs K = true
  ·rw [if_pos hr] at h1
   exact ⟨i, rfl, hr, by omega, by simpa using h2⟩
  ·rw [if_neg hr] at h1; omega
 ·rintro ⟨i, rfl, hr, h1, h2⟩
  refine List.mem_map.2 ⟨i, List.mem_filter.2 ⟨List.mem_range.2 ?_, by simpa using h2⟩, rfl⟩
  rw [if_pos hr]; omega
theorem findM_right (xs : List Cls) (K : Int) (s : ByteArray) : rgtS (-1) (findM xs K s) = true := by
 rw [right_iff]
 refine ⟨fun z hz => ?_, ?_⟩
 ·obtain ⟨i, rfl, -⟩ := findM_mem.1 hz; omega
 ·unfold findM fewTo
  rw [List.pairwise_map]
  refine List.Pairwise.imp (R := (· < ·)) (fun h => by omega) ?_
  exact List.Pairwise.filter _ List.pairwise_lt_range
theorem findM_grows {xs : List Cls} {K : Int} {s : ByteArray} (t : ByteArray) {z : Int} (h : z ∈ findM xs K s) : z ∈ findM xs K (s ++ t) := by
 obtain ⟨i, rfl, hr, h1, h2⟩ := findM_mem.1 h
 exact findM_mem.2 ⟨i, rfl, hr, by rw [ByteArray.size_append]; omega, by rw [missN_left xs s t i h1]; exact h2⟩
theorem mem_shiftL {a : List Int} {n : Int} (ha : rgtS (-1) a = true) {z : Int} : z ∈ shiftL a n ↔ 0 ≤ n ∧ 0 ≤ z ∧ z + n ∈ a := by
 unfold shiftL keptL
 by_cases hn : n < 0
 ·rw [if_pos hn]
  constructor
  ·intro h; cases h
  ·rintro ⟨h, -⟩; omega
 ·rw [if_neg hn, if_pos ha]
  constructor
  ·intro h
   obtain ⟨y, hy, rfl⟩ := List.mem_map.1 h
   obtain ⟨h1, h2⟩ := List.mem_filter.1 hy
   have h2 : n ≤ y := by simpa using h2
   exact ⟨by omega, by omega, by rw [show y - n + n = y from by omega]; exact h1⟩
  ·rintro ⟨h0, h1, h2⟩
   exact List.mem_map.2 ⟨z + n, List.mem_filter.2 ⟨h2, by simp; omega⟩, by omega⟩
inductive RelR : List (List Int) → List (List Int) → Prop
 | nil : RelR [] []
 | cons {a b : List Int} {fs gs : List (List Int)} (ha : rgtS (-1) a = true) (hb : rgtS (-1) b = true) (hs : ∀ z ∈ a, z ∈ b) (h : RelR fs gs) : RelR (a :: fs) (b :: gs)
theorem gtV_grows {n m : Int} {t : GT} : t.ok → (∀ x ∈ t.flat, x.kind ≠ 4) → ∀ {fs gs : List (List Int)}, RelR fs gs → rgtS (-1) (gtV n t fs).1 = true ∧ rgtS (-1) (gtV m t gs).1 = true ∧ (∀ z ∈ (gtV n t fs).1, z ∈ (gtV m t gs).1) ∧ RelR (gtV n t fs).2 (gtV m t gs).2 := by
 induction t with
 | leaf x =>
  intro h hk fs gs hr
  cases hr with
  | nil => exact ⟨rfl, rfl, (fun z hz => hz), RelR.nil⟩
  | cons ha hb hs h => exact ⟨ha, hb, hs, h⟩
 | one x a ih =>
  intro h hk fs gs hr
  obtain ⟨i1, i2, i3, i4⟩ := ih h.2 (fun y hy => hk y (by simp [GT.flat, hy])) hr
  have hx : x.kind ≠ 4 := hk x (by simp [GT.flat])
  simp only [gtV]
  rw [if_neg hx, if_neg hx]
  refine ⟨right_shift _ _, right_shift _ _, fun z hz => ?_, i4⟩
  rw [mem_shiftL i1] at hz
  rw [mem_shiftL i2]
  exact ⟨hz.1, hz.2.1, i3 _ hz.2.2⟩
 | two x a b iha ihb =>
  intro h hk fs gs hr
  obtain ⟨i1, i2, i3, i4⟩ := iha h.2.1 (fun y hy => hk y (by simp [GT.flat, hy])) hr
  obtain ⟨j1, j2, j3, j4⟩ := ihb h.2.2 (fun y hy => hk y (by simp [GT.flat, hy])) i4
  simp only [gtV]
  by_cases h2 : x.kind = 2
  ·rw [if_pos h2, if_pos h2]
   refine ⟨right_and _ _, right_and _ _, fun z hz => ?_, j4⟩
   rw [mem_and i1 j1] at hz
   rw [mem_and i2 j2]
   exact ⟨i3 _ hz.1, j3 _ hz.2⟩
  ·rw [if_neg h2, if_neg h2]
   refine ⟨right_or _ _, right_or _ _, fun z hz => ?_, j4⟩
   rw [mem_or i1 j1] at hz
   rw [mem_or i2 j2]
   exact hz.imp (i3 _) (j3 _)
theorem rows_right (qs : List LP) (s : ByteArray) : (rowsF qs s).all (fun l => rgtS (-1) l) = true := by
 rw [List.all_eq_true]
 intro l hl
 obtain ⟨q, -, rfl⟩ := List.mem_map.1 hl
 exact findM_right _ _ _
theorem joinB_rows {ps : List NP} (h : rightN (ps.map NP.x) = true) (s : ByteArray) : joinB (ps.map NP.x) (rowsF (leavesP ps) s) = true := by
 unfold joinB
 rw [h, rows_right, decide_eq_true (by unfold rowsF; rw [List.length_map, leavesP_cnt])]
 rfl
theorem RelR.rows (qs : List LP) (s t : ByteArray) : RelR (rowsF qs s) (rowsF qs (s ++ t)) := by
 induction qs with
 | nil => exact .nil
 | cons q qs ih => exact .cons (findM_right _ _ _) (findM_right _ _ _) (fun z hz => findM_grows t hz) ih
theorem join_grows {ps : List NP} (h : rightN (ps.map NP.x) = true) (hk : ∀ p ∈ ps, p.x.kind ≠ 4) (N M : Int) (s t : ByteArray) :
  ∀ z ∈ joinL N (ps.map NP.x) (rowsF (leavesP ps) s), z ∈ joinL M (ps.map NP.x) (rowsF (leavesP ps) (s ++ t)) := by
 intro z hz
 unfold joinL at hz ⊢
 rw [if_pos (joinB_rows h _)] at hz ⊢
 obtain ⟨-, T, hT, hf⟩ := right_tree18 h
 rw [hf, joinV_tree hT] at hz ⊢
 exact (gtV_grows hT (fun x hx => by rw [← hf] at hx; obtain ⟨p, hp, rfl⟩ := List.mem_map.1 hx; exact hk p hp) (RelR.rows (leavesP ps) s t)).2.2.1 z hz
theorem joinL_right (N : Int) (L : List Nd) (fs : List (List Int)) : rgtS (-1) (joinL N L fs) = true := by
 unfold joinL
 split
 ·rename_i h
  have hr : ∀ l ∈ fs, rgtS (-1) l = true := (joinB_run (N := N) h).2.1
  have h1 : rightN L = true := by unfold joinB at h; simp only [Bool.and_eq_true] at h; exact h.1.1
  obtain ⟨-, T, hT, hf⟩ := right_tree18 h1
  rw [hf, joinV_tree hT]
  cases T with
  | leaf x =>
   simp only [gtV]
   cases fs with
   | nil => rfl
   | cons a fs => exact hr a (by simp)
  | one x a => simp only [gtV]; split; exact right_not _ _; exact right_shift _ _
  | two x a b => simp only [gtV]; split; exact right_and _ _; exact right_or _ _
 ·rfl
structure Along (X Y : List Int) (k m : Nat) : Prop where
 le : m ≤ Y.length
 lt : ∀ j, j < m → ∀ i, k ≤ i → i < X.length → Y.getD j 0 < X.getD i 0
theorem rgt_lt {a : Int} {X : List Int} (h : rgtS a X = true) {i j : Nat} (hij : i < j) (hj : j < X.length) : X.getD i 0 < X.getD j 0 := by
 have := (right_iff.1 h).2
 rw [List.pairwise_iff_getElem] at this
 have := this i j (by omega) hj hij
 simpa [show i < X.length from by omega, hj] using this
theorem rgt_le {a : Int} {X : List Int} (h : rgtS a X = true) {i j : Nat} (hij : i ≤ j) (hj : j < X.length) : X.getD i 0 ≤ X.getD j 0 := by
 rcases Nat.lt_or_ge i j with h1 | h1
 ·have := rgt_lt h h1 hj; omega
 ·obtain rfl : i = j := by omega
  exact Int.le_refl _
theorem Along.step {X Y : List Int} {k m : Nat} (hX : rgtS (-1) X = true) (h : Along X Y k m) (hk : k < X.length) (hm : m < Y.length) (hy : Y.getD m 0 < X.getD k 0) : Along X Y k (m + 1) :=
 ⟨hm, fun j hj i hi hil => by
  rcases Nat.lt_or_ge j m with h1 | h1
  ·exact h.lt j h1 i hi hil
  ·obtain rfl : j = m := by omega
   exact Int.lt_of_lt_of_le hy (rgt_le hX hi hil)⟩
theorem Along.next {X Y : List Int} {k m : Nat} (h : Along X Y k m) : Along X Y (k + 1) m := ⟨h.le, fun j hj i hi hil => h.lt j hj i (by omega) hil⟩
theorem mem_getD {X : List Int} {z : Int} (h : z ∈ X) : ∃ p, p < X.length ∧ X.getD p 0 = z := by
 obtain ⟨p, hp, e⟩ := List.getElem_of_mem h
 exact ⟨p, hp, by simpa [hp] using e⟩
theorem getD_mem18 {X : List Int} {p : Nat} (h : p < X.length) : X.getD p 0 ∈ X := by
 rw [List.getD_eq_getElem?_getD, List.getElem?_eq_getElem h]; exact List.getElem_mem _
theorem Along.there {X Y : List Int} {k m : Nat} (hY : rgtS (-1) Y = true) (h : Along X Y k m) (hk : k < X.length) (hs : ∀ z ∈ X, z ∈ Y) : m < Y.length ∧ X.getD k 0 ≤ Y.getD m 0 → Y.getD m 0 = X.getD k 0 := by
 rintro ⟨h1, h2⟩
 obtain ⟨p, hp, e⟩ := mem_getD (hs _ (getD_mem18 hk))
 rcases Nat.lt_or_ge p m with h3 | h3
 ·have := h.lt p h3 k (Nat.le_refl _) hk; omega
 ·have := rgt_le hY h3 hp; omega
theorem Along.more {X Y : List Int} {k m : Nat} (h : Along X Y k m) (hk : k < X.length) (hs : ∀ z ∈ X, z ∈ Y) : m < Y.length := by
 obtain ⟨p, hp, e⟩ := mem_getD (hs _ (getD_mem18 hk))
 rcases Nat.lt_or_ge p m with h3 | h3
 ·have := h.lt p h3 k (Nat.le_refl _) hk; omega
 ·omega
theorem same_intsM {w' : World} {A B : Option Addr} {n c m d : Nat} {xs : List Int} {F G : Nat → Prop} (h : IntsAt F w' A n c xs) (h' : IntsAt G w' B m d xs) : Calls Tryz.prog 19 #[.slice A n c, .slice B m d] w' fun e w'' => e = .returned (.bool true) ∧ Chg Nothing w' w'' :=
 (samePlaces_any F G A B n c m d xs xs w' h h').mono (fun e w'' ⟨he, q, hq⟩ => ⟨by rw [he]; simp, hq ▸ (Chg.refl _ _).drewN q⟩)
def lvX (L : List Nd) : List (List Cls × Int) := (L.filter fun x => decide (x.kind = 1)).map fun x => (x.p, x.K)
theorem lvX_leaves (ps : List NP) : lvX (ps.map NP.x) = (leavesP ps).map fun q => (q.p, q.K) := by
 unfold lvX leavesP
 rw [List.filter_map, List.map_map, List.map_map]
 rfl
def longX (L : List Nd) : Nat := (lvX L).foldl (fun m q => max m q.1.length) 0
theorem longX_eq (ps : List NP) : longL (leavesP ps) = longX (ps.map NP.x) := by
 unfold longX longL
 rw [lvX_leaves, List.foldl_map]
def evEx (L : List Nd) (force size : Int) : Int := if rightN L = false ∨ force < 0 ∨ 5 < force then 180 else if size ≠ 0 ∧ ((logS size).isSome = false ∨ size < (longX L : Nat)) then 50 else 0
theorem evE_x (ps : List NP) (force size : Int) : evE ps force size = evEx (ps.map NP.x) force size := by
 unfold evE evEx; rw [longX_eq]
def rowsX (L : List Nd) (s : ByteArray) : List (List Int) := (lvX L).map fun q => findM q.1 q.2 s
theorem rowsX_eq (ps : List NP) (s : ByteArray) : rowsF (leavesP ps) s = rowsX (ps.map NP.x) s := by
 unfold rowsX rowsF
 rw [lvX_leaves, List.map_map]
 rfl
def occX (L : List Nd) (s : ByteArray) : List Int := joinL s.size L (rowsX L s)
theorem occX_eq (ps : List NP) (s : ByteArray) : joinL s.size (ps.map NP.x) (rowsF (leavesP ps) s) = occX (ps.map NP.x) s := by
 unfold occX; rw [rowsX_eq]
def evRx (L : List Nd) (force size : Int) (s : ByteArray) : List Int := if evEx L force size = 0 ∧ s.size ≤ 100000 then occX L s else []
theorem evR_x (ps : List NP) (force size : Int) (s : ByteArray) : evR ps force size s = evRx (ps.map NP.x) force size s := by
 unfold evR evRx; rw [evE_x, occX_eq]
def evXx (L : List Nd) (force size : Int) (s : ByteArray) : Int := if evEx L force size = 0 then (if s.size ≤ 100000 then 0 else 180) else evEx L force size
theorem evX_x (ps : List NP) (force size : Int) (s : ByteArray) : evX ps force size s = evXx (ps.map NP.x) force size s := by
 unfold evX evXx; rw [evE_x]
def allX (L : List Nd) (force size n : Int) : Int := ((lvX L).map fun q => countW q.1 (evW q.1 q.2 force n size) n (evS q.1.length n size)).sum
theorem allX_eq (ps : List NP) (force size n : Int) : allN (leavesP ps) force size n = allX (ps.map NP.x) force size n := by
 unfold allN allX
 rw [lvX_leaves, List.map_map]
 rfl
def evCx (L : List Nd) (force size : Int) (s : ByteArray) : Int := if evEx L force size = 0 ∧ s.size ≤ 100000 then allX L force size s.size else 0
theorem evC_x (ps : List NP) (force size : Int) (s : ByteArray) : evC ps force size s = evCx (ps.map NP.x) force size s := by
 unfold evC evCx; rw [evE_x, allX_eq]
def FvInv (w : World) (n : Nat) (ov iv : Value) (wr : World) : Prop := ∃ (k : Nat) (x : Int), k ≤ n ∧ iv = .int .i64 k ∧ ov = .int .i64 x ∧ Chg Nothing w wr
theorem few18_any (F : Nat → Prop) (A : Option Addr) (n c : Nat) (ps : List NP) (s : ByteArray) (w : World) (H : NRow F w A n c ps) :
  Calls Tryz.prog 9 #[.slice A n c, .string s] w fun e w' => ∃ b, e = .returned (.bool b) ∧ Hid (b = true → n ≤ 100 ∧ s.size ≤ 200) ∧ Chg Nothing w w' := by
 have HH := hid H
 have hle := H.row.le
 have hmx := H.row.max
 clear H
 obtain ⟨b1, hb1⟩ : ∃ b, decide ((n : Int) ≤ 100) = b := ⟨_, rfl⟩
 obtain ⟨b3, hb3⟩ : ∃ b, decide ((s.size : Int) ≤ 200) = b := ⟨_, rfl⟩
 go_enter Tryz.func9, Tryz.ntmps9
 go_wp2_with fail
 go_loopw [5, 10] (fun ov iv wr => FvInv w n ov iv wr) (fun _ iv _ => n - (intOf iv).toNat)
 case atStart => exact ⟨0, 0, Nat.zero_le _, rfl, rfl, Chg.refl _ _⟩
 case round =>
  obtain ⟨k, x, hk, rfl, rfl, hchg⟩ := hrel
  rcases Nat.lt_or_ge k n with hkn | hkn
  ·obtain ⟨g, o, p, rfl, -, hgl, hp, hpm, -, c0, c1, c2, c3⟩ := (HH.out.calm hchg).four hkn
   have hk0 : (0 : Int) ≤ (k : Int) := by omega
   have hkn' : (k : Int) < (n : Int) := by omega
   have hcx := hid (hchg.alloc (.cells #[.int .i64 p.x.kind, .int .i64 p.x.n, .slice p.A p.l p.c, .int .i64 p.x.K] 55))
   replace hb1 := hid hb1
   replace hb3 := hid hb3
   clear hp hpm hchg
   go_wp2
   go_roundw
   case rel => exact ⟨k + 1, _, hkn, by go_num, rfl, hcx.out⟩
   case measure => simp [intOf]; omega
  ·have hd : decide ((k : Int) < (n : Int)) = false := decide_eq_false (by omega)
   obtain ⟨b2, hb2⟩ : ∃ b, decide (x ≤ 500) = b := ⟨_, rfl⟩
   have hn1 := hid hb1
   have hn3 := hid hb3
   cases b1 with
   | false =>
    go_wp2
    go_ret
    exact ⟨false, rfl, (show Hid (false = true → _) from fun h => by cases h), hchg⟩
   | true =>
    cases b2 with
    | false =>
     go_wp2
     go_ret
     exact ⟨false, rfl, (show Hid (false = true → _) from fun h => by cases h), hchg⟩
    | true =>
     cases b3 with
     | false =>
      go_wp2
      go_ret
      exact ⟨false, rfl, (show Hid (false = true → _) from fun h => by cases h), hchg⟩
     | true =>
      go_wp2
      go_ret
      exact ⟨true, rfl, (show Hid (true = true → _) from fun _ => ⟨by have := of_decide_eq_true hn1.out; omega, by have := of_decide_eq_true hn3.out; omega⟩), hchg⟩
abbrev s18a : ByteArray := ⟨#[97]⟩
abbrev s18b : ByteArray := ⟨#[97, 98]⟩
abbrev s18t : ByteArray := ⟨#[97, 98, 97, 97]⟩
abbrev n18 : List Nd := [⟨2, 0, [], 0⟩, ⟨1, 0, textC s18a, 0⟩, ⟨4, 0, [], 0⟩, ⟨1, 0, textC s18b, 0⟩]
abbrev q18 (A1 : Option Addr) (c1 : Nat) (A2 : Option Addr) (c2 : Nat) : List NP := [⟨⟨2, 0, [], 0⟩, none, 0, 0⟩, ⟨⟨1, 0, textC s18a, 0⟩, A1, 1, c1⟩, ⟨⟨4, 0, [], 0⟩, none, 0, 0⟩, ⟨⟨1, 0, textC s18b, 0⟩, A2, 2, c2⟩]
theorem dec18a : evRx n18 0 0 s18t = [2, 3] ∧ evCx n18 0 0 s18t = 0 ∧ evXx n18 0 0 s18t = 0 := by decide +kernel
theorem dec18b : evRx n18 4 8 s18t = [2, 3] ∧ evXx n18 4 8 s18t = 0 := by decide +kernel
theorem dec18c : evRx [] 0 0 s18a = [] ∧ evCx [] 0 0 s18a = 0 ∧ evXx [] 0 0 s18a = 180 := by decide +kernel
theorem dec18d : evRx n18 0 1 s18a = [] ∧ evCx n18 0 1 s18a = 0 ∧ evXx n18 0 1 s18a = 50 := by decide +kernel
theorem dec18e : joinL 4 n18 [[0, 2, 3], [0]] = [2, 3] ∧ joinB n18 [[0, 2, 3], [0]] = true := by decide +kernel
theorem dec18f : joinL 4 n18 [] = [] ∧ joinB n18 [] = false := by decide +kernel
theorem dec18g : evEx n18 6 0 = 180 := by decide +kernel
theorem dec18h : evW (textC s18a) 0 4 4 0 = 4 := by decide +kernel
theorem dec18i : evS 1 4 16 = 16 := by decide +kernel
theorem NRow.lit {w : World} {F : Nat → Prop} (ps : List NP) (cs : Array Value) (n : Nat) (h : cs = (ps.flatMap ndL).toArray) (hl : ps.length = n) (hn : n ≤ 9223372036854775807) (T : TypeId) (hels : ∀ p ∈ ps, NRead F w p) : NRow (fun _ => True) (w.alloc (.cells cs T)) (some ⟨w.heap.size, 0, none⟩) n n ps := by
 subst h
 refine ⟨hl, ⟨(fun e => by cases e), Nat.le_refl _, hn, by rw [flat_len ndL 4 ndL_len, hl], fun h0 => ⟨w.heap.size, 0, rfl, trivial, by rw [World.size_alloc]; omega, fun j hj => ?_⟩⟩, fun p hp => ⟨((hels p hp).row.chg ((Chg.refl Nothing w).alloc _) (fun _ _ _ h => h)).mono (fun _ _ _ => trivial), (hels p hp).len⟩⟩
 have hlj : j < (ps.flatMap ndL).length := by rw [flat_len ndL 4 ndL_len, hl]; exact hj
 rw [Nat.zero_add]
 refine (Blk.new w _ T).cell j ?_
 rw [List.getElem?_toArray, List.getD_eq_getElem?_getD, List.getElem?_eq_getElem hlj]; rfl
theorem rr18 (w : World) : RRow (fun _ => True) (fun k => k < w.heap.size + 3) (((w.alloc (.cells #[.int .i64 0, .int .i64 2, .int .i64 3] 3)).alloc (.cells #[.int .i64 0] 3)).alloc (.cells #[.slice (some ⟨w.heap.size, 0, none⟩) 3 3, .slice (some ⟨w.heap.size + 1, 0, none⟩) 1 1] 37)) (some ⟨w.heap.size + 2, 0, none⟩) 2 2 [⟨[0, 2, 3], some ⟨w.heap.size, 0, none⟩, 3, 3⟩, ⟨[0], some ⟨w.heap.size + 1, 0, none⟩, 1, 1⟩] := by
 have h1 : IntsAt (fun k => k < w.heap.size + 3) (w.alloc (.cells #[.int .i64 0, .int .i64 2, .int .i64 3] 3)) (some ⟨w.heap.size, 0, none⟩) 3 3 [0, 2, 3] := ElsAt.new w _ _ _ 3 rfl rfl (by decide) (by omega)
 have h2 : IntsAt (fun k => k < w.heap.size + 3) ((w.alloc (.cells #[.int .i64 0, .int .i64 2, .int .i64 3] 3)).alloc (.cells #[.int .i64 0] 3)) (some ⟨w.heap.size + 1, 0, none⟩) 1 1 [0] := by
  have := ElsAt.new (enc := Value.int .i64) (d := (0 : Int)) (F := fun k => k < w.heap.size + 3) (w.alloc (.cells #[.int .i64 0, .int .i64 2, .int .i64 3] 3)) #[.int .i64 0] 3 [0] 1 rfl rfl (by decide) (by rw [World.size_alloc]; omega)
  rw [World.size_alloc] at this
  exact this
 refine ⟨?_, fun q hq => ?_⟩
 ·have := ElsAt.new (enc := rpV) (d := rp0) (F := fun _ => True) ((w.alloc (.cells #[.int .i64 0, .int .i64 2, .int .i64 3] 3)).alloc (.cells #[.int .i64 0] 3)) #[.slice (some ⟨w.heap.size, 0, none⟩) 3 3, .slice (some ⟨w.heap.size + 1, 0, none⟩) 1 1] 37 [⟨[0, 2, 3], some ⟨w.heap.size, 0, none⟩, 3, 3⟩, ⟨[0], some ⟨w.heap.size + 1, 0, none⟩, 1, 1⟩] 2 rfl rfl (by decide) trivial
  rw [World.size_alloc, World.size_alloc] at this
  exact this
 ·simp only [List.mem_cons, List.not_mem_nil, or_false] at hq
  rcases hq with rfl | rfl
  ·exact ElsAt.chg h1 (((Chg.refl Nothing _).alloc _).alloc _) (fun _ _ _ h => h)
  ·exact ElsAt.chg h2 ((Chg.refl Nothing _).alloc _) (fun _ _ _ h => h)
theorem rr18_fine {A B : Option Addr} {a b c d : Nat} : ∀ q ∈ ([⟨[0, 2, 3], A, a, b⟩, ⟨[0], B, c, d⟩] : List RP), ∀ z ∈ q.xs, z ≤ 9223372036854775807 := by
 intro q hq z hz
 simp only [List.mem_cons, List.not_mem_nil, or_false] at hq
 rcases hq with rfl | rfl
 ·simp at hz; omega
 ·simp at hz; omega
theorem lit23 (w : World) : IntsAt (fun _ => True) (w.alloc (.cells #[.int .i64 2, .int .i64 3] 3)) (some ⟨w.heap.size, 0, none⟩) 2 2 [2, 3] := ElsAt.new w _ _ _ 2 rfl rfl (by decide) trivial
theorem joinFlat {f : FuncId} {args : Array Value} {N : Int} {L : List Nd} {fs : List (List Int)} {w : World} (h : Calls Tryz.prog f args w (JoinAns N L fs w)) : Calls Tryz.prog f args w fun e w' => ∃ A c, e = .returned (.tuple #[.slice A (joinL N L fs).length c, .bool (joinB L fs)]) ∧ IRow w' w.heap.size A (joinL N L fs).length c (joinL N L fs) ∧ Chg Nothing w w' := h
theorem alive18 (w : World) : Calls Tryz.prog 10 #[] w fun e w' => e = .returned (.bool true) ∧ Chg Nothing w w' := by
 go_enter Tryz.func10, Tryz.ntmps10
 go_wp2_with fail
 refine (leafText_any s18a 0 w (by decide)).mono ?_
 rintro e w1 ⟨A1, c1, rfl, hR1, hc1⟩
 have hL1 := hid (hR1.mono (G := fun _ => True) (fun _ _ _ => trivial))
 have hD1 := hid hc1
 clear hR1 hc1
 go_wp2_with fail
 refine (leafText_any s18b 0 w1 (by decide)).mono ?_
 rintro e w2 ⟨A2, c2, rfl, hR2, hc2⟩
 have hL12 := hid (hL1.out.chg hc2 (fun _ _ _ h => h))
 have hL2 := hid (hR2.mono (G := fun _ => True) (fun _ _ _ => trivial))
 have hD2 := hid (hD1.out.trans hc2)
 clear hR2 hc2 hL1 hD1
 go_wp2_with fail
 obtain ⟨W, hW⟩ : ∃ W, W = w2.alloc (.cells #[.int .i64 2, .int .i64 0, .slice none 0 0, .int .i64 0, .int .i64 1, .int .i64 0, .slice A1 1 c1, .int .i64 0, .int .i64 4, .int .i64 0, .slice none 0 0, .int .i64 0, .int .i64 1, .int .i64 0, .slice A2 2 c2, .int .i64 0] 55) := ⟨_, rfl⟩
 have hQ0 := NRow.lit (w := w2) (F := fun _ => True) (q18 A1 c1 A2 c2) _ 4 rfl rfl (by decide) 55 (fun p hp => by
  simp only [List.mem_cons, List.not_mem_nil, or_false] at hp
  rcases hp with rfl | rfl | rfl | rfl
  ·exact ⟨RowAt.none _ _ _, rfl⟩
  ·exact ⟨hL12.out, textC_len _⟩
  ·exact ⟨RowAt.none _ _ _, rfl⟩
  ·exact ⟨hL2.out, textC_len _⟩)
 have hD := hid (show Chg Nothing w W from by rw [hW]; exact hD2.out.alloc _)
 obtain ⟨b, hb⟩ : ∃ b, b = w2.heap.size := ⟨_, rfl⟩
 have hblt : b < W.heap.size := by rw [hb, hW, World.size_alloc]; omega
 have hQ := hid (show NRow (fun _ => True) W (some ⟨b, 0, none⟩) 4 4 (q18 A1 c1 A2 c2) from by rw [hW, hb]; exact hQ0)
 have e1 := hid (fun (w' : World) (hc : Chg Nothing W w') => by
  have h := symFlat (evalEval_any _ _ 4 4 (q18 A1 c1 A2 c2) s18t 0 0 w' (hQ.out.calm hc) (by decide))
  rw [evR_x, evC_x, evX_x, show (q18 A1 c1 A2 c2).map NP.x = n18 from rfl, dec18a.1, dec18a.2.1, dec18a.2.2] at h
  exact h)
 have e2 := hid (fun (w' : World) (hc : Chg Nothing W w') => by
  have h := symFlat (evalEval_any _ _ 4 4 (q18 A1 c1 A2 c2) s18t 4 8 w' (hQ.out.calm hc) (by decide))
  rw [evR_x, evC_x, evX_x, show (q18 A1 c1 A2 c2).map NP.x = n18 from rfl, dec18b.1, dec18b.2] at h
  exact h)
 have e3 := hid (fun (w' : World) => by
  have h := symFlat (evalEval_any (fun _ => True) none 0 0 [] s18a 0 0 w' (NRow.nil _ _) (by decide))
  rw [evR_x, evC_x, evX_x, show ([] : List NP).map NP.x = [] from rfl, dec18c.1, dec18c.2.1, dec18c.2.2] at h
  exact h)
 have e4 := hid (fun (w' : World) (hc : Chg Nothing W w') => by
  have h := symFlat (evalEval_any _ _ 4 4 (q18 A1 c1 A2 c2) s18a 0 1 w' (hQ.out.calm hc) (by decide))
  rw [evR_x, evC_x, evX_x, show (q18 A1 c1 A2 c2).map NP.x = n18 from rfl, dec18d.1, dec18d.2.1, dec18d.2.2] at h
  exact h)
 have e5 := hid (fun (w' : World) (hc : Chg Nothing W w') => by
  have h := joinFlat (evalJoin_any _ _ _ _ 4 4 (q18 A1 c1 A2 c2) _ 2 2 _ 4 _ (hQ.out.calm (((hc.alloc (.cells #[.int .i64 0, .int .i64 2, .int .i64 3] 3)).alloc (.cells #[.int .i64 0] 3)).alloc (.cells #[.slice (some ⟨w'.heap.size, 0, none⟩) 3 3, .slice (some ⟨w'.heap.size + 1, 0, none⟩) 1 1] 37))) (by decide) (rr18 w') (fun k hk => by rw [World.size_alloc, World.size_alloc, World.size_alloc]; omega) (by decide) rr18_fine (show sumR [[0, 2, 3], [0]] ≤ 100000000000 from by decide))
  rw [show (q18 A1 c1 A2 c2).map NP.x = n18 from rfl, show ([⟨[0, 2, 3], some ⟨w'.heap.size, 0, none⟩, 3, 3⟩, ⟨[0], some ⟨w'.heap.size + 1, 0, none⟩, 1, 1⟩] : List RP).map RP.xs = [[0, 2, 3], [0]] from rfl, dec18e.1, dec18e.2] at h
  exact h)
 have e6 := hid (fun (w' : World) (hc : Chg Nothing W w') => by
  have h := joinFlat (evalJoin_any _ (fun _ => True) (fun _ => False) _ 4 4 (q18 A1 c1 A2 c2) none 0 0 [] 4 w' (hQ.out.calm hc) (by decide) ⟨ElsAt.nil _ _, fun q hq => by cases hq⟩ (fun k hk => hk.elim) (by decide) (by decide) (by decide))
  rw [show (q18 A1 c1 A2 c2).map NP.x = n18 from rfl, show ([] : List RP).map RP.xs = [] from rfl, dec18f.1, dec18f.2] at h
  exact h)
 have e7 := hid (fun (w' : World) (hc : Chg Nothing W w') => by
  have h := evalCheck_any _ _ 4 4 (q18 A1 c1 A2 c2) 6 0 w' (hQ.out.calm hc) (by decide)
  rw [evE_x, show (q18 A1 c1 A2 c2).map NP.x = n18 from rfl, dec18g] at h
  exact h)
 have e8 := hid (fun (w' : World) (A : Option Addr) (c : Nat) (h : ClsRow (fun _ => True) w' A 1 c (textC s18a)) => by
  have h := evalWay_any (fun _ => True) A 1 c (textC s18a) 0 4 4 0 w' h rfl (by decide)
  rw [dec18h] at h
  exact h)
 have e9 := hid (fun (w' : World) (A : Option Addr) (c : Nat) => by
  have h := evalSize_any A 1 c 0 4 0 16 w'
  rw [dec18i] at h
  exact h)
 have hT := hid (fun w => leafText_any s18a 0 w (by decide))
 generalize evCx n18 4 8 s18t = num2 at e2
 clear hQ0 hL12 hL2 hD2
 rw [← hb, ← hW]
 replace hW := hid hW
 replace hb := hid hb
 go_wp2_with fail
 refine (e1.out _ (Chg.refl _ _)).mono ?_
 rintro e v1 ⟨Af, cf, rfl, hO, hc⟩
 have hF := hid (hO.els.mono (G := fun _ => True) (fun _ _ _ => trivial))
 clear hO
 have hE := hid hc
 clear hc
 go_wp2_with fail
 refine (e2.out _ hE.out).mono ?_
 rintro e v2 ⟨Ag, cg, rfl, hO, hc⟩
 replace hF := hid (hF.out.chg hc (fun _ _ _ h => h))
 have hG := hid (hO.els.mono (G := fun _ => True) (fun _ _ _ => trivial))
 clear hO
 replace hE := hid (hE.out.trans hc)
 clear hc
 go_wp2_with fail
 refine (e3.out _).mono ?_
 rintro e v3 ⟨A3, c3, rfl, -, hc⟩
 replace hF := hid (hF.out.chg hc (fun _ _ _ h => h))
 replace hG := hid (hG.out.chg hc (fun _ _ _ h => h))
 replace hE := hid (hE.out.trans hc)
 clear hc
 go_wp2_with fail
 refine (e4.out _ hE.out).mono ?_
 rintro e v4 ⟨A4, c4, rfl, -, hc⟩
 replace hF := hid (hF.out.chg hc (fun _ _ _ h => h))
 replace hG := hid (hG.out.chg hc (fun _ _ _ h => h))
 replace hE := hid (hE.out.trans hc)
 clear hc
 have e5v := hid (e5.out _ hE.out)
 clear e5
 go_wp2_with fail
 refine e5v.out.mono ?_
 rintro e v5 ⟨Aj, cj, rfl, hO, hc0⟩
 have hc := (((Chg.refl Nothing v4).alloc (.cells #[.int .i64 0, .int .i64 2, .int .i64 3] 3)).alloc (.cells #[.int .i64 0] 3)).alloc (.cells #[.slice (some ⟨v4.heap.size, 0, none⟩) 3 3, .slice (some ⟨v4.heap.size + 1, 0, none⟩) 1 1] 37) |>.trans hc0
 replace hF := hid (hF.out.chg hc (fun _ _ _ h => h))
 replace hG := hid (hG.out.chg hc (fun _ _ _ h => h))
 have hJ := hid (hO.els.mono (G := fun _ => True) (fun _ _ _ => trivial))
 replace hE := hid (hE.out.trans hc)
 clear hc hc0 hO e5v
 go_wp2_with fail
 refine (e6.out _ hE.out).mono ?_
 rintro e v6 ⟨A6, c6, rfl, -, hc⟩
 replace hF := hid (hF.out.chg hc (fun _ _ _ h => h))
 replace hG := hid (hG.out.chg hc (fun _ _ _ h => h))
 replace hJ := hid (hJ.out.chg hc (fun _ _ _ h => h))
 replace hE := hid (hE.out.trans hc)
 clear hc
 go_wp2_with fail
 refine (same_intsM (hF.out.chg ((Chg.refl Nothing v6).alloc _) (fun _ _ _ h => h)) (lit23 v6)).mono ?_
 rintro e v7 ⟨rfl, hc0⟩
 have hc := ((Chg.refl Nothing v6).alloc (.cells #[.int .i64 2, .int .i64 3] 3)).trans hc0
 replace hF := hid (hF.out.chg hc (fun _ _ _ h => h))
 replace hG := hid (hG.out.chg hc (fun _ _ _ h => h))
 replace hJ := hid (hJ.out.chg hc (fun _ _ _ h => h))
 replace hE := hid (hE.out.trans hc)
 clear hc hc0
 go_wp2_with fail
 refine (same_intsM hG.out hF.out).mono ?_
 rintro e v8 ⟨rfl, hc⟩
 replace hF := hid (hF.out.chg hc (fun _ _ _ h => h))
 replace hG := hid (hG.out.chg hc (fun _ _ _ h => h))
 replace hJ := hid (hJ.out.chg hc (fun _ _ _ h => h))
 replace hE := hid (hE.out.trans hc)
 clear hc
 go_wp2_with fail
 refine (same_intsM hJ.out hF.out).mono ?_
 rintro e v9 ⟨rfl, hc⟩
 replace hF := hid (hF.out.chg hc (fun _ _ _ h => h))
 replace hG := hid (hG.out.chg hc (fun _ _ _ h => h))
 replace hJ := hid (hJ.out.chg hc (fun _ _ _ h => h))
 replace hE := hid (hE.out.trans hc)
 clear hc
 go_wp2_with fail
 refine (e7.out _ hE.out).mono ?_
 rintro e v10 ⟨rfl, hc⟩
 replace hF := hid (hF.out.chg hc (fun _ _ _ h => h))
 replace hG := hid (hG.out.chg hc (fun _ _ _ h => h))
 replace hJ := hid (hJ.out.chg hc (fun _ _ _ h => h))
 replace hE := hid (hE.out.trans hc)
 clear hc
 go_wp2_with fail
 refine (hT.out _).mono ?_
 rintro e v11 ⟨A7, c7, rfl, hR7, hc⟩
 replace hF := hid (hF.out.chg hc (fun _ _ _ h => h))
 replace hG := hid (hG.out.chg hc (fun _ _ _ h => h))
 replace hJ := hid (hJ.out.chg hc (fun _ _ _ h => h))
 have hR7h := hid (show ClsRow (fun _ => True) v11 A7 1 c7 (textC s18a) from hR7.mono (G := fun _ => True) (fun _ _ _ => trivial))
 clear hR7
 replace hE := hid (hE.out.trans hc)
 clear hc
 go_wp2_with fail
 refine (e8.out _ _ _ hR7h.out).mono ?_
 rintro e v12 ⟨rfl, hc⟩
 replace hF := hid (hF.out.chg hc (fun _ _ _ h => h))
 replace hG := hid (hG.out.chg hc (fun _ _ _ h => h))
 replace hJ := hid (hJ.out.chg hc (fun _ _ _ h => h))
 replace hE := hid (hE.out.trans hc)
 clear hc
 go_wp2_with fail
 refine (hT.out _).mono ?_
 rintro e v13 ⟨A8, c8, rfl, -, hc⟩
 replace hF := hid (hF.out.chg hc (fun _ _ _ h => h))
 replace hG := hid (hG.out.chg hc (fun _ _ _ h => h))
 replace hJ := hid (hJ.out.chg hc (fun _ _ _ h => h))
 replace hE := hid (hE.out.trans hc)
 clear hc
 go_wp2_with fail
 refine (e9.out _ _ _).mono ?_
 rintro e v14 ⟨rfl, hc⟩
 replace hF := hid (hF.out.chg hc (fun _ _ _ h => h))
 replace hG := hid (hG.out.chg hc (fun _ _ _ h => h))
 replace hJ := hid (hJ.out.chg hc (fun _ _ _ h => h))
 replace hE := hid (hE.out.trans hc)
 clear hc
 go_wp2
 go_ret
 exact ⟨rfl, hD.out.trans hE.out⟩
end Go.Proofs.YtoelilejohfglaaGreat
