/- Joined texts: JnA JnB JnC JnD JnE JnF JnG JnH JnI. -/
import Derived.Test.YtoelilejohfglaaGreatBnSet
import Derived.Test.YtoelilejohfglaaGreatBnQry
import Derived.Test.YtoelilejohfglaaGreatBnEv
import Derived.Deep.RegionHeld3
set_option maxHeartbeats 16000000
set_option maxRecDepth 100000
namespace Go.Proofs.YtoelilejohfglaaGreat
open Go.RowKit
set_option linter.unusedVariables false
set_option linter.unusedSimpArgs false
def gtV (n : Int) : GT → List (List Int) → List Int × List (List Int)
 | .leaf _, fs => (fs.headD [], fs.tail)
 | .one x a, fs => (if x.kind = 4 then notL (gtV n a fs).1 n else shiftL (gtV n a fs).1 x.n, (gtV n a fs).2)
 | .two x a b, fs => (if x.kind = 2 then andL (gtV n a fs).1 (gtV n b (gtV n a fs).2).1 else orL (gtV n a fs).1 (gtV n b (gtV n a fs).2).1, (gtV n b (gtV n a fs).2).2)
def GT.cnt : GT → Nat
 | .leaf _ => 1
 | .one _ a => a.cnt
 | .two _ a b => a.cnt + b.cnt
theorem gtV_rest (n : Int) (t : GT) : ∀ (fs : List (List Int)) (k : Nat), (gtV n t (fs.drop k)).2 = fs.drop (k + t.cnt) := by
 induction t with
 | leaf x => intro fs k; simp [gtV, GT.cnt, List.tail_drop]
 | one x a ih => intro fs k; simp only [gtV, GT.cnt]; exact ih fs k
 | two x a b iha ihb => intro fs k; simp only [gtV, GT.cnt]; rw [iha fs k, ihb fs (k + a.cnt), Nat.add_assoc]
def stepJ (n : Int) (fs : List (List Int)) (x : Nd) (s : Nat × List (List Int)) : Option (Nat × List (List Int)) :=
 if x.kind = 1 then (match s.1 with | 0 => none | k + 1 => some (k, fs.getD k [] :: s.2))
 else if x.kind = 4 then (match s.2 with | a :: q => some (s.1, notL a n :: q) | [] => none)
 else if x.kind = 5 then (match s.2 with | a :: q => some (s.1, shiftL a x.n :: q) | [] => none)
 else if x.kind = 2 then (match s.2 with | a :: b :: q => some (s.1, andL a b :: q) | _ => none)
 else if x.kind = 3 then (match s.2 with | a :: b :: q => some (s.1, orL a b :: q) | _ => none)
 else none
def runJ (n : Int) (fs : List (List Int)) : List Nd → Nat × List (List Int) → Option (Nat × List (List Int))
 | [], s => some s
 | x :: L, s => (runJ n fs L s).bind (stepJ n fs x)
theorem runJ_append (n : Int) (fs : List (List Int)) (A B : List Nd) (s : Nat × List (List Int)) : runJ n fs (A ++ B) s = (runJ n fs B s).bind (runJ n fs A) := by
 induction A with
 | nil => simp [runJ]
 | cons x A ih =>
  simp only [List.cons_append, runJ]
  rw [ih, Option.bind_assoc]
theorem runJ_tree (n : Int) (fs : List (List Int)) (t : GT) : t.ok → ∀ (k : Nat) (st : List (List Int)), k + t.cnt ≤ fs.length → runJ n fs t.flat (k + t.cnt, st) = some (k, (gtV n t (fs.drop k)).1 :: st) := by
 induction t with
 | leaf x =>
  intro h k st hk
  simp only [GT.cnt] at hk
  have hkd : x.kind = 1 := h
  simp only [GT.flat, runJ, Option.bind_some, stepJ, GT.cnt, gtV]
  rw [if_pos hkd]
  simp only [Option.some.injEq, Prod.mk.injEq, List.cons.injEq, true_and, and_true]
  rw [List.headD_eq_head?_getD, List.head?_drop]
  rfl
 | one x a ih =>
  intro h k st hk
  simp only [GT.cnt] at hk
  simp only [GT.flat, runJ, GT.cnt, gtV]
  rw [ih h.2 k st hk]
  rcases h.1 with h4 | h5
  ·simp [stepJ, h4]
  ·simp [stepJ, h5]
 | two x a b iha ihb =>
  intro h k st hk
  simp only [GT.cnt] at hk
  simp only [GT.flat, runJ, GT.cnt, gtV]
  rw [runJ_append, show k + (a.cnt + b.cnt) = (k + a.cnt) + b.cnt from by omega, ihb h.2.2 (k + a.cnt) st (by omega), Option.bind_some, iha h.2.1 k _ (by omega), gtV_rest]
  rcases h.1 with h2 | h3
  ·simp [stepJ, h2]
  ·simp [stepJ, h3]
theorem cnt_flat {t : GT} (h : t.ok) : (t.flat.filter fun x => decide (x.kind = 1)).length = t.cnt := by
 induction t with
 | leaf x => simp only [GT.flat]; rw [List.filter_cons_of_pos (by have h1 : x.kind = 1 := h; simp [h1])]; rfl
 | one x a ih =>
  simp only [GT.flat]
  rw [List.filter_cons_of_neg (by rcases h.1 with e | e <;> simp [e]), ih h.2]; rfl
 | two x a b iha ihb =>
  simp only [GT.flat]
  rw [List.filter_cons_of_neg (by rcases h.1 with e | e <;> simp [e]), List.filter_append, List.length_append, iha h.2.1, ihb h.2.2]; rfl
def sumR (fs : List (List Int)) : Nat := (fs.map List.length).sum
theorem sumR_cons (x : List Int) (fs : List (List Int)) : sumR (x :: fs) = x.length + sumR fs := by simp [sumR]
theorem sumR_app (a b : List (List Int)) : sumR (a ++ b) = sumR a + sumR b := by simp [sumR]
theorem sumR_take (fs : List (List Int)) (k : Nat) : sumR (fs.take (k + 1)) = sumR (fs.take k) + (fs.getD k []).length := by
 rw [List.take_add_one]
 unfold sumR
 rw [List.map_append, List.sum_append]
 cases h : fs[k]? <;> simp [List.getD, h]
theorem and_len (a b : List Int) : (andL a b).length ≤ a.length := by
 unfold andL
 split
 ·exact keptL_len
 ·simp
theorem or_len (a b : List Int) : (orL a b).length ≤ a.length + b.length := by
 unfold orL
 split
 ·exact mergeL_len a b
 ·simp
theorem not_len (a : List Int) (n : Int) : (notL a n).length ≤ 100000 := by
 unfold notL
 split
 ·refine Nat.le_trans (List.length_filter_le _ _) ?_
  simp [clip]; omega
 ·simp
theorem shift_len (a : List Int) (n : Int) : (shiftL a n).length ≤ a.length := by
 unfold shiftL
 split
 ·simp
 ·rw [List.length_map]; exact keptL_len
def FineR (l : List Int) : Prop := rgtS (-1) l = true ∧ ∀ z ∈ l, z ≤ 9223372036854775807
theorem fineR_and {a b : List Int} (ha : FineR a) (hb : FineR b) : FineR (andL a b) := ⟨right_and a b, fun z hz => ha.2 z ((mem_and ha.1 hb.1).1 hz).1⟩
theorem fineR_or {a b : List Int} (ha : FineR a) (hb : FineR b) : FineR (orL a b) := ⟨right_or a b, fun z hz => ((mem_or ha.1 hb.1).1 hz).elim (ha.2 z) (hb.2 z)⟩
theorem fineR_not {a : List Int} (ha : FineR a) (n : Int) : FineR (notL a n) := ⟨right_not a n, fun z hz => by
 have := ((mem_not ha.1).1 hz).1
 unfold clip at this
 omega⟩
theorem fineR_shift {a : List Int} (ha : FineR a) {n : Int} : FineR (shiftL a n) := ⟨right_shift a n, fun z hz => by
 unfold shiftL at hz
 split at hz
 ·simp at hz
 ·rename_i hn
  obtain ⟨y, hy, rfl⟩ := List.mem_map.1 hz
  have := keptL_nonneg y hy
  have := ha.2 y this.2.1
  omega⟩
structure GoodJ (fs : List (List Int)) (B : Nat) (s : Nat × List (List Int)) : Prop where
 le : s.1 ≤ fs.length
 fine : ∀ r ∈ s.2, FineR r
 sum : sumR (fs.take s.1) + sumR s.2 ≤ B
theorem stepJ_good {n : Int} {fs : List (List Int)} {B : Nat} {x : Nd} {s s' : Nat × List (List Int)} (hf : ∀ r ∈ fs, FineR r) (h : stepJ n fs x s = some s') (hg : GoodJ fs B s) : GoodJ fs (B + 100000) s' := by
 obtain ⟨m, st⟩ := s
 obtain ⟨h1, h2, h3⟩ := hg
 simp only [] at h1 h2 h3
 unfold stepJ at h
 split at h
 ·cases m with
  | zero => cases h
  | succ k =>
   injection h with h; subst h
   rw [sumR_take] at h3
   refine ⟨by show k ≤ _; omega, fun r hr => ?_, by show sumR (fs.take k) + sumR (fs.getD k [] :: st) ≤ _; rw [sumR_cons]; omega⟩
   rcases List.mem_cons.1 hr with rfl | hr
   ·exact hf _ (by simp [show k < fs.length from h1])
   ·exact h2 r hr
 ·split at h
  ·cases st with
   | nil => cases h
   | cons a q =>
    injection h with h; subst h
    rw [sumR_cons] at h3
    have := not_len a n
    refine ⟨h1, fun r hr => ?_, by show sumR (fs.take m) + sumR (notL a n :: q) ≤ _; rw [sumR_cons]; omega⟩
    rcases List.mem_cons.1 hr with rfl | hr
    ·exact fineR_not (h2 a (by simp)) n
    ·exact h2 r (by simp [hr])
  ·split at h
   ·cases st with
    | nil => cases h
    | cons a q =>
     injection h with h; subst h
     rw [sumR_cons] at h3
     have := shift_len a x.n
     refine ⟨h1, fun r hr => ?_, by show sumR (fs.take m) + sumR (shiftL a x.n :: q) ≤ _; rw [sumR_cons]; omega⟩
     rcases List.mem_cons.1 hr with rfl | hr
     ·exact fineR_shift (h2 a (by simp))
     ·exact h2 r (by simp [hr])
   ·split at h
    ·rcases st with _ | ⟨a, _ | ⟨b, q⟩⟩
     ·cases h
     ·cases h
     ·injection h with h; subst h
      rw [sumR_cons, sumR_cons] at h3
      have := and_len a b
      refine ⟨h1, fun r hr => ?_, by show sumR (fs.take m) + sumR (andL a b :: q) ≤ _; rw [sumR_cons]; omega⟩
      rcases List.mem_cons.1 hr with rfl | hr
      ·exact fineR_and (h2 a (by simp)) (h2 b (by simp))
      ·exact h2 r (by simp [hr])
    ·split at h
     ·rcases st with _ | ⟨a, _ | ⟨b, q⟩⟩
      ·cases h
      ·cases h
      ·injection h with h; subst h
       rw [sumR_cons, sumR_cons] at h3
       have := or_len a b
       refine ⟨h1, fun r hr => ?_, by show sumR (fs.take m) + sumR (orL a b :: q) ≤ _; rw [sumR_cons]; omega⟩
       rcases List.mem_cons.1 hr with rfl | hr
       ·exact fineR_or (h2 a (by simp)) (h2 b (by simp))
       ·exact h2 r (by simp [hr])
     ·cases h
theorem gtV_good (n : Int) (fs : List (List Int)) (hf : ∀ r ∈ fs, FineR r) (t : GT) : ∀ (k : Nat), k + t.cnt ≤ fs.length → FineR (gtV n t (fs.drop k)).1 ∧ (gtV n t (fs.drop k)).1.length + sumR (fs.take k) ≤ sumR (fs.take (k + t.cnt)) + 100000 * t.flat.length := by
 induction t with
 | leaf x =>
  intro k hk
  simp only [GT.cnt] at hk
  have e : (gtV n (.leaf x) (fs.drop k)).1 = fs.getD k [] := by simp only [gtV]; rw [List.headD_eq_head?_getD, List.head?_drop]; rfl
  rw [e]
  refine ⟨hf _ (by simp [show k < fs.length from hk]), ?_⟩
  have := sumR_take fs k
  simp only [GT.cnt]
  omega
 | one x a ih =>
  intro k hk
  simp only [GT.cnt] at hk
  obtain ⟨h1, h2⟩ := ih k hk
  simp only [gtV, GT.cnt, GT.flat, List.length_cons]
  split
  ·have := not_len (gtV n a (fs.drop k)).1 n
   have h5 : sumR (fs.take k) ≤ sumR (fs.take (k + a.cnt)) := by rw [List.take_add, sumR_app]; omega
   exact ⟨fineR_not h1 n, by omega⟩
  ·have := shift_len (gtV n a (fs.drop k)).1 x.n
   exact ⟨fineR_shift h1, by omega⟩
 | two x a b iha ihb =>
  intro k hk
  simp only [GT.cnt] at hk
  obtain ⟨h1, h2⟩ := iha k (by omega)
  obtain ⟨h3, h4⟩ := ihb (k + a.cnt) (by omega)
  simp only [gtV, GT.cnt, GT.flat, List.length_cons, List.length_append]
  rw [gtV_rest, ← Nat.add_assoc]
  split
  ·have := and_len (gtV n a (fs.drop k)).1 (gtV n b (fs.drop (k + a.cnt))).1
   exact ⟨fineR_and h1 h3, by omega⟩
  ·have := or_len (gtV n a (fs.drop k)).1 (gtV n b (fs.drop (k + a.cnt))).1
   exact ⟨fineR_or h1 h3, by omega⟩
structure RP where
 xs : List Int
 A : Option Addr
 l : Nat
 c : Nat
def rpV (q : RP) : Value := .slice q.A q.l q.c
def rp0 : RP := ⟨[], none, 0, 0⟩
def RIn (G : Nat → Prop) (w : World) (q : RP) : Prop := IntsAt G w q.A q.l q.c q.xs
structure RRow (F G : Nat → Prop) (w : World) (A : Option Addr) (n c : Nat) (qs : List RP) : Prop where
 row : ElsAt rpV rp0 F w A n c qs
 els : ∀ q ∈ qs, RIn G w q
theorem RRow.chg {F G S : Nat → Prop} {w w' : World} {A : Option Addr} {n c : Nat} {qs : List RP} (h : RRow F G w A n c qs) (hc : Chg S w w') (hd : ∀ k, k < w.heap.size → F k ∨ G k → ¬ S k) : RRow F G w' A n c qs :=
 ⟨h.row.chg hc (fun k hk hF => hd k hk (.inl hF)), fun q hq => (h.els q hq).chg hc (fun k hk hG => hd k hk (.inr hG))⟩
theorem RRow.calm {F G : Nat → Prop} {w w' : World} {A : Option Addr} {n c : Nat} {qs : List RP} (h : RRow F G w A n c qs) (hc : Chg Nothing w w') : RRow F G w' A n c qs := h.chg hc (fun _ _ _ h => h)
theorem infoRR : (Tryz.prog.info? 37).map (fun i => (i.zero, i.size, i.bytes)) = some (some (.slice none 0 0), 1, 24) := by kernel_rfl
theorem own_popG {w : World} {base : Nat} {e : TypeId} {A : Option Addr} {k c : Nat} {vs : List Value} {v : Value} (h : w.ownsRow base e 1 (.slice A (k + 1) c) (k + 1) (vs ++ [v])) :
  (∃ g, A = some ⟨g, 0, none⟩ ∧ w.cell? ⟨g, k, none⟩ = some v ∧ base ≤ g ∧ g < w.heap.size) ∧ k + 1 ≤ c ∧ c ≤ 9223372036854775807 ∧ w.ownsRow base e 1 (.slice A k c) k vs := by
 have hlt := own_of h
 obtain ⟨h1, h2⟩ := h
 rcases h2 with ⟨h0, _⟩ | ⟨g, cap, cur, hv, hg, hh, hn, hcap, hsz, htake⟩
 ·cases h0
 ·cases hv
  simp at h1
  have hk : k < cur.size := by omega
  have ht : cur.toList.take (k + 1) = vs ++ [v] := by simpa using htake
  rw [List.take_succ_eq_append_getElem (by simpa using hk)] at ht
  have h3 := List.append_inj' ht rfl
  have h4 : cur[k]? = some v := by
   have := h3.2
   simp at this
   rw [Array.getElem?_eq_getElem hk, this]
  have hg2 := hlt g ⟨_, rfl, rfl⟩
  refine ⟨⟨g, rfl, (show Blk w g cur e from hh).cell k h4, hg, hg2.2⟩, hn, hcap, by simp; omega, .inr ⟨g, c, cur, rfl, hg, hh, by omega, hcap, hsz, ?_⟩⟩
  simpa using h3.1
theorem pop_any (jb : Nat) (Fv Nv v : Value) (PA : Option Addr) (k pc : Nat) (vs : List Value) (base : Nat) (w : World) (hJ : Blk w jb #[Fv, .slice PA (k + 1) pc, Nv] 74) (hO : w.ownsRow base 37 1 (.slice PA (k + 1) pc) (k + 1) (vs ++ [v])) (hne : ¬ Of PA jb) :
  Calls Tryz.prog 51 #[.pointer (some ⟨jb, 0, none⟩)] w fun e w' => e = .returned v ∧ Blk w' jb #[Fv, .slice PA k pc, Nv] 74 ∧ w'.ownsRow base 37 1 (.slice PA k pc) k vs ∧ Chg (One jb) w w' := by
 obtain ⟨⟨g, rfl, hv, hg, hgl⟩, hkc, hcm, hO2⟩ := own_popG hO
 have x1 := hJ.cell 1 (v := .slice (some ⟨g, 0, none⟩) (k + 1) pc) rfl
 have f1 := hJ.free 1
 have hjl := hJ.lt
 have hJh := hid hJ
 have hOh := hid hO2
 have hneh := hid hne
 clear hJ hO hO2 hne hg
 have e1 : ((k + 1 : Nat) : Int) - 1 = (k : Int) := by omega
 have e2 : IntKind.i64.wrap (k : Int) = (k : Int) := by rw [IntKind.wrap_i64]; omega
 have e3 : IntKind.i64.wrap ((k : Int) + 1 - 1) = (k : Int) := by rw [IntKind.wrap_i64]; omega
 have e4 : IntKind.i64.wrap (((k + 1 : Nat) : Int) - 1) = (k : Int) := by rw [e1, e2]
 have k0 : (0 : Int) ≤ (k : Int) := by omega
 have k1 : (k : Int) < ((k + 1 : Nat) : Int) := by omega
 have k2 : (k : Int) < (k : Int) + 1 := by omega
 have k3 : (k : Int) ≤ (pc : Int) := by omega
 go_enter Tryz.func51, Tryz.ntmps51
 go_wp2
 go_ret
 exact ⟨rfl, hJh.out.set 1 _, own_chg hOh.out ((Chg.refl (One jb) w).setOne 1 _) (fun j hj e => hneh.out ((show j = jb from e) ▸ hj)), (Chg.refl (One jb) w).setOne 1 _⟩
abbrev ndV (p : NP) : Value := .agg #[.int .i64 p.x.kind, .int .i64 p.x.n, .slice p.A p.l p.c, .int .i64 p.x.K]
theorem jfind_any (jb : Nat) (Pv Nv : Value) (FA : Option Addr) (k fc : Nat) (qs : List RP) (F : Nat → Prop) (m : Nat) (p : NP) (w : World) (hJ : Blk w jb #[.slice FA (k + 1) fc, Pv, Nv] 74) (hR : ElsAt rpV rp0 F w FA m fc qs) (hkm : k < m) :
  Calls Tryz.prog 44 #[.pointer (some ⟨jb, 0, none⟩), ndV p] w fun e w' => e = .returned (rpV (qs.getD k rp0)) ∧ Blk w' jb #[.slice FA k fc, Pv, Nv] 74 ∧ Chg (One jb) w w' := by
 obtain ⟨g, o, rfl, -, hgl, hv⟩ := hR.at_ (k := k) hkm
 have hkc := Nat.lt_of_lt_of_le hkm hR.2.1
 have hcm := hR.2.2.1
 generalize qs.getD k rp0 = q at hv ⊢
 unfold rpV at hv ⊢
 have hJ1 := hid hJ
 have x1 := hJ.cell 0 (v := .slice (some ⟨g, o, none⟩) (k + 1) fc) rfl
 have f1 := hJ.free 0
 have hjl := hJ.lt
 clear hJ hR
 have e3 : IntKind.i64.wrap ((k : Int) + 1 - 1) = (k : Int) := by rw [IntKind.wrap_i64]; omega
 have e4 : IntKind.i64.wrap (((k + 1 : Nat) : Int) - 1) = (k : Int) := by rw [IntKind.wrap_i64]; omega
 have k0 : (0 : Int) ≤ (k : Int) := by omega
 have k1 : (k : Int) < ((k + 1 : Nat) : Int) := by omega
 have k2 : (k : Int) < (k : Int) + 1 := by omega
 have k3 : (k : Int) ≤ (fc : Int) := by omega
 go_enter Tryz.func44, Tryz.ntmps44
 go_wp2
 go_ret
 exact ⟨rfl, (hJ1.out.set 0 _).alloc _, ((Chg.refl (One jb) w).setOne 0 _).alloc _⟩
def PairAns (jb : Nat) (Fv Nv : Value) (PA : Option Addr) (k pc : Nat) (vs : List Value) (base : Nat) (ys : List Int) (w : World) (e : Ending) (w' : World) : Prop :=
 GivesInts w.heap.size w' e ys ∧ Blk w' jb #[Fv, .slice PA k pc, Nv] 74 ∧ w'.ownsRow base 37 1 (.slice PA k pc) k vs ∧ Chg (One jb) w w'
theorem jand_any (jb : Nat) (Fv Nv : Value) (PA : Option Addr) (k pc : Nat) (vs : List Value) (base : Nat) (G : Nat → Prop) (a b : RP) (p : NP) (w : World) (hJ : Blk w jb #[Fv, .slice PA (k + 2) pc, Nv] 74) (hO : w.ownsRow base 37 1 (.slice PA (k + 2) pc) (k + 2) (vs ++ [rpV b, rpV a])) (hne : ¬ Of PA jb) (ha : RIn G w a) (hb : RIn G w b) (hG : ∀ k, G k → k < w.heap.size ∧ k ≠ jb) (hla : a.xs.length ≤ 1000000000000) (hlb : b.xs.length ≤ 1000000000000) :
  Calls Tryz.prog 45 #[.pointer (some ⟨jb, 0, none⟩), ndV p] w (PairAns jb Fv Nv PA k pc vs base (andL a.xs b.xs) w) := by
 have hw0 := (Chg.refl (One jb) w).alloc (.cells #[.int .i64 p.x.kind, .int .i64 p.x.n, .slice p.A p.l p.c, .int .i64 p.x.K] 55)
 have hJ1 := hJ.alloc (.cells #[.int .i64 p.x.kind, .int .i64 p.x.n, .slice p.A p.l p.c, .int .i64 p.x.K] 55)
 have hO1 := own_chg hO hw0 (fun j hj e => hne ((show j = jb from e) ▸ hj))
 have hP1 := hid (pop_any jb Fv Nv (rpV a) PA (k + 1) pc (vs ++ [rpV b]) base _ hJ1 (by simpa using hO1) hne)
 have hP2 := hid (fun w' hJ' hO' => pop_any jb Fv Nv (rpV b) PA k pc vs base w' hJ' hO' hne)
 have hA := hid (fun w' (hc : Chg (One jb) w w') => (show IntsAt G w' a.A a.l a.c a.xs from ElsAt.chg ha hc (fun j hj hg e => (hG j hg).2 e)))
 have hB := hid (fun w' (hc : Chg (One jb) w w') => (show IntsAt G w' b.A b.l b.c b.xs from ElsAt.chg hb hc (fun j hj hg e => (hG j hg).2 e)))
 have hln := ha.2.2.2.1
 have hlm := hb.2.2.2.1
 have hS := hid (fun w' (hc : Chg (One jb) w w') => setAnd_any G G a.A b.A a.l a.c b.l b.c a.xs b.xs w' (hA.out w' hc) (hB.out w' hc) (fun k hk => Nat.lt_of_lt_of_le (hG k hk).1 hc.size) (fun k hk => Nat.lt_of_lt_of_le (hG k hk).1 hc.size) (by omega))
 have hwh := hid hw0
 have hneh := hid hne
 clear hJ hO hJ1 hO1 ha hb hG hA hB hw0 hne hln hlm hla hlb
 unfold rpV at hP1 hP2
 go_enter Tryz.func45, Tryz.ntmps45
 go_wp2_with fail
 refine hP1.out.mono ?_
 rintro e w1 ⟨rfl, hJ1, hO1, hc1⟩
 have hC1 := hid (hwh.out.trans hc1)
 replace hP2 := hid (hP2.out w1 hJ1 hO1)
 clear hJ1 hO1 hc1
 go_wp2_with fail
 refine hP2.out.mono ?_
 rintro e w2 ⟨rfl, hJ2, hO2, hc2⟩
 have hC2 := hid (hC1.out.trans hc2)
 have hJh := hid hJ2
 have hOh := hid hO2
 clear hJ2 hO2 hc2
 go_wp2_with fail
 refine (hS.out w2 hC2.out).mono ?_
 rintro e w3 ⟨⟨A3, c3, rfl, hO3⟩, hc3⟩
 have hC3 := hid (hC2.out.then hc3 (fun _ _ h => h.elim))
 have hJ3 := hid (hJh.out.chg hc3 id)
 have hO3' := hid (own_chg hOh.out hc3 (fun _ _ h => h))
 have hO3h := hid (own_base_mono hO3 hC2.out.size)
 clear hc3 hO3
 go_wp2
 go_ret
 exact ⟨⟨A3, c3, rfl, hO3h.out⟩, hJ3.out, hO3'.out, hC3.out⟩
theorem jor_any (jb : Nat) (Fv Nv : Value) (PA : Option Addr) (k pc : Nat) (vs : List Value) (base : Nat) (G : Nat → Prop) (a b : RP) (p : NP) (w : World) (hJ : Blk w jb #[Fv, .slice PA (k + 2) pc, Nv] 74) (hO : w.ownsRow base 37 1 (.slice PA (k + 2) pc) (k + 2) (vs ++ [rpV b, rpV a])) (hne : ¬ Of PA jb) (ha : RIn G w a) (hb : RIn G w b) (hG : ∀ k, G k → k < w.heap.size ∧ k ≠ jb) (hla : a.xs.length ≤ 1000000000000) (hlb : b.xs.length ≤ 1000000000000) :
  Calls Tryz.prog 46 #[.pointer (some ⟨jb, 0, none⟩), ndV p] w (PairAns jb Fv Nv PA k pc vs base (orL a.xs b.xs) w) := by
 have hw0 := (Chg.refl (One jb) w).alloc (.cells #[.int .i64 p.x.kind, .int .i64 p.x.n, .slice p.A p.l p.c, .int .i64 p.x.K] 55)
 have hJ1 := hJ.alloc (.cells #[.int .i64 p.x.kind, .int .i64 p.x.n, .slice p.A p.l p.c, .int .i64 p.x.K] 55)
 have hO1 := own_chg hO hw0 (fun j hj e => hne ((show j = jb from e) ▸ hj))
 have hP1 := hid (pop_any jb Fv Nv (rpV a) PA (k + 1) pc (vs ++ [rpV b]) base _ hJ1 (by simpa using hO1) hne)
 have hP2 := hid (fun w' hJ' hO' => pop_any jb Fv Nv (rpV b) PA k pc vs base w' hJ' hO' hne)
 have hA := hid (fun w' (hc : Chg (One jb) w w') => (show IntsAt G w' a.A a.l a.c a.xs from ElsAt.chg ha hc (fun j hj hg e => (hG j hg).2 e)))
 have hB := hid (fun w' (hc : Chg (One jb) w w') => (show IntsAt G w' b.A b.l b.c b.xs from ElsAt.chg hb hc (fun j hj hg e => (hG j hg).2 e)))
 have hln := ha.2.2.2.1
 have hlm := hb.2.2.2.1
 have hS := hid (fun w' (hc : Chg (One jb) w w') => setOr_any G G a.A b.A a.l a.c b.l b.c a.xs b.xs w' (hA.out w' hc) (hB.out w' hc) (fun k hk => Nat.lt_of_lt_of_le (hG k hk).1 hc.size) (fun k hk => Nat.lt_of_lt_of_le (hG k hk).1 hc.size) (by omega) (by omega))
 have hwh := hid hw0
 have hneh := hid hne
 clear hJ hO hJ1 hO1 ha hb hG hA hB hw0 hne hln hlm hla hlb
 unfold rpV at hP1 hP2
 go_enter Tryz.func46, Tryz.ntmps46
 go_wp2_with fail
 refine hP1.out.mono ?_
 rintro e w1 ⟨rfl, hJ1, hO1, hc1⟩
 have hC1 := hid (hwh.out.trans hc1)
 replace hP2 := hid (hP2.out w1 hJ1 hO1)
 clear hJ1 hO1 hc1
 go_wp2_with fail
 refine hP2.out.mono ?_
 rintro e w2 ⟨rfl, hJ2, hO2, hc2⟩
 have hC2 := hid (hC1.out.trans hc2)
 have hJh := hid hJ2
 have hOh := hid hO2
 clear hJ2 hO2 hc2
 go_wp2_with fail
 refine (hS.out w2 hC2.out).mono ?_
 rintro e w3 ⟨⟨A3, c3, rfl, hO3⟩, hc3⟩
 have hC3 := hid (hC2.out.then hc3 (fun _ _ h => h.elim))
 have hJ3 := hid (hJh.out.chg hc3 id)
 have hO3' := hid (own_chg hOh.out hc3 (fun _ _ h => h))
 have hO3h := hid (own_base_mono hO3 hC2.out.size)
 clear hc3 hO3
 go_wp2
 go_ret
 exact ⟨⟨A3, c3, rfl, hO3h.out⟩, hJ3.out, hO3'.out, hC3.out⟩
theorem not_nothing {k : Nat} : ¬ Nothing k := id
theorem own_calm {w w' : World} {base : Nat} {e : TypeId} {sz n c : Nat} {A : Option Addr} {xs : List Value} (h : w.ownsRow base e sz (.slice A n c) n xs) (hc : Chg Nothing w w') : w'.ownsRow base e sz (.slice A n c) n xs := own_chg h hc (fun _ _ h => h)
theorem givesFlat {f : FuncId} {args : Array Value} {w : World} {ys : List Int} (h : Calls Tryz.prog f args w fun e w' => GivesInts w.heap.size w' e ys ∧ Chg Nothing w w') : Calls Tryz.prog f args w fun e w' => ∃ A c, e = .returned (.slice A ys.length c) ∧ w'.ownsRow w.heap.size 3 1 (.slice A ys.length c) ys.length (ys.map (Value.int .i64)) ∧ Chg Nothing w w' :=
 h.mono (fun e w' ⟨⟨A, c, h1, h2⟩, h3⟩ => ⟨A, c, h1, h2, h3⟩)
theorem jnot_any (jb : Nat) (Fv : Value) (n : Int) (PA : Option Addr) (k pc : Nat) (vs : List Value) (base : Nat) (G : Nat → Prop) (a : RP) (p : NP) (w : World) (hJ : Blk w jb #[Fv, .slice PA (k + 1) pc, (.int .i64 n)] 74) (hO : w.ownsRow base 37 1 (.slice PA (k + 1) pc) (k + 1) (vs ++ [rpV a])) (hne : ¬ Of PA jb) (ha : RIn G w a) (hG : ∀ k, G k → k < w.heap.size ∧ k ≠ jb) (hla : a.xs.length ≤ 1000000000000) :
  Calls Tryz.prog 47 #[.pointer (some ⟨jb, 0, none⟩), ndV p] w (PairAns jb Fv (.int .i64 n) PA k pc vs base (notL a.xs n) w) := by
 have hw0 := (Chg.refl (One jb) w).alloc (.cells #[.int .i64 p.x.kind, .int .i64 p.x.n, .slice p.A p.l p.c, .int .i64 p.x.K] 55)
 have hJ1 := hJ.alloc (.cells #[.int .i64 p.x.kind, .int .i64 p.x.n, .slice p.A p.l p.c, .int .i64 p.x.K] 55)
 have hO1 := own_chg hO hw0 (fun j hj e => hne ((show j = jb from e) ▸ hj))
 have hP1 := hid (fun w' hJ' hO' => pop_any jb Fv (.int .i64 n) (rpV a) PA k pc vs base w' hJ' hO' hne)
 have hA := hid (fun w' (hc : Chg (One jb) w w') => (show IntsAt G w' a.A a.l a.c a.xs from ElsAt.chg ha hc (fun j hj hg e => (hG j hg).2 e)))
 have hln := ha.2.2.2.1
 have hS := hid (fun w' (hc : Chg (One jb) w w') => setNot_any G a.A a.l a.c a.xs n w' (hA.out w' hc) (fun k hk => Nat.lt_of_lt_of_le (hG k hk).1 hc.size))
 have hcur := hid hw0.drew
 have hJc := hid (hJ1.drew)
 have hOc := hid (show ((w.alloc (.cells #[.int .i64 p.x.kind, .int .i64 p.x.n, .slice p.A p.l p.c, .int .i64 p.x.K] 55)).drew).ownsRow base 37 1 (.slice PA (k + 1) pc) (k + 1) (vs ++ [rpV a]) from hO1)
 have hjl := hid (show ¬ One jb w.heap.size from fun e => by have := hJ.lt; have : w.heap.size = jb := e; omega)
 have hThen := hid (fun (W W' : World) (h1 : Chg (One jb) w W) (h2 : Chg Nothing W W') => (h1.then h2 (fun _ _ h => absurd h not_nothing) : Chg (One jb) w W'))
 have hneh := hid hne
 clear hJ hO hJ1 hO1 ha hG hA hw0 hne hln hla
 unfold rpV at hP1 hOc
 go_enter Tryz.func47, Tryz.ntmps47
 go_wp2_with fail
 go_region_held3 (fun w' => w'.cell? ⟨jb, 2, none⟩ = some (.int .i64 n))
  (exact hJc.out.cell 2 rfl)
  (first
  | (go_at_call 51; with_reducible refine (hP1.out _ hJc.out hOc.out).mono ?_; rintro e wP ⟨rfl, hJP, hOP, hcP⟩; replace hcur := hid (hcur.out.trans hcP); replace hJc := hid hJP; replace hOc := hid hOP; replace hcP := hid hcP)
  | (go_at_call 79; with_reducible refine (givesFlat (hS.out _ hcur.out)).mono ?_; rintro e wS ⟨A3, c3, rfl, hO3, hcS⟩; replace hO3 := hid (own_base_mono hO3 hcur.out.size); replace hcur := hid (hThen.out _ _ hcur.out hcS); replace hJc := hid (hJc.out.chg hcS not_nothing); replace hOc := hid (own_calm hOc.out hcS); replace hcS := hid hcS))
 all_goals
  go_wp2
  go_ret
  exact ⟨⟨A3, c3, rfl, hO3.out⟩, hJc.out, hOc.out, hcur.out⟩
theorem jshift_any (jb : Nat) (Fv Nv : Value) (PA : Option Addr) (k pc : Nat) (vs : List Value) (base : Nat) (G : Nat → Prop) (a : RP) (p : NP) (w : World) (hJ : Blk w jb #[Fv, .slice PA (k + 1) pc, Nv] 74) (hO : w.ownsRow base 37 1 (.slice PA (k + 1) pc) (k + 1) (vs ++ [rpV a])) (hne : ¬ Of PA jb) (ha : RIn G w a) (hG : ∀ k, G k → k < w.heap.size ∧ k ≠ jb) (hla : a.xs.length ≤ 1000000000000) (hx : p.x.n ≤ 9223372036854775807) (hxs : ∀ z ∈ a.xs, z ≤ 9223372036854775807) :
  Calls Tryz.prog 48 #[.pointer (some ⟨jb, 0, none⟩), ndV p] w (PairAns jb Fv Nv PA k pc vs base (shiftL a.xs p.x.n) w) := by
 have hw0 := (Chg.refl (One jb) w).alloc (.cells #[.int .i64 p.x.kind, .int .i64 p.x.n, .slice p.A p.l p.c, .int .i64 p.x.K] 55)
 have hJ1 := hJ.alloc (.cells #[.int .i64 p.x.kind, .int .i64 p.x.n, .slice p.A p.l p.c, .int .i64 p.x.K] 55)
 have hO1 := own_chg hO hw0 (fun j hj e => hne ((show j = jb from e) ▸ hj))
 have hP1 := hid (fun w' hJ' hO' => pop_any jb Fv Nv (rpV a) PA k pc vs base w' hJ' hO' hne)
 have hA := hid (fun w' (hc : Chg (One jb) w w') => (show IntsAt G w' a.A a.l a.c a.xs from ElsAt.chg ha hc (fun j hj hg e => (hG j hg).2 e)))
 have hln := ha.2.2.2.1
 have hS := hid (fun w' (hc : Chg (One jb) w w') => setShift_any G a.A a.l a.c a.xs p.x.n w' (hA.out w' hc) (fun k hk => Nat.lt_of_lt_of_le (hG k hk).1 hc.size) (by omega) hx hxs)
 have hcur := hid hw0.drew
 have hJc := hid (hJ1.drew)
 have hOc := hid (show ((w.alloc (.cells #[.int .i64 p.x.kind, .int .i64 p.x.n, .slice p.A p.l p.c, .int .i64 p.x.K] 55)).drew).ownsRow base 37 1 (.slice PA (k + 1) pc) (k + 1) (vs ++ [rpV a]) from hO1)
 have hjl := hid (show ¬ One jb w.heap.size from fun e => by have := hJ.lt; have : w.heap.size = jb := e; omega)
 have hXc := hid ((Blk.new w #[.int .i64 p.x.kind, .int .i64 p.x.n, .slice p.A p.l p.c, .int .i64 p.x.K] 55).drew)
 have hThen := hid (fun (W W' : World) (h1 : Chg (One jb) w W) (h2 : Chg Nothing W W') => (h1.then h2 (fun _ _ h => absurd h not_nothing) : Chg (One jb) w W'))
 have hneh := hid hne
 clear hJ hO hJ1 hO1 ha hG hA hw0 hne hln hla hx hxs
 unfold rpV at hP1 hOc
 go_enter Tryz.func48, Tryz.ntmps48
 go_wp2_with fail
 go_region_held3 (fun w' => w'.cell? ⟨w.heap.size, 1, none⟩ = some (.int .i64 p.x.n))
  (exact hXc.out.cell 1 rfl)
  (first
  | (go_at_call 51; with_reducible refine (hP1.out _ hJc.out hOc.out).mono ?_; rintro e wP ⟨rfl, hJP, hOP, hcP⟩; replace hcur := hid (hcur.out.trans hcP); replace hJc := hid hJP; replace hOc := hid hOP; replace hXc := hid (hXc.out.chg hcP hjl.out); replace hcP := hid hcP)
  | (go_at_call 80; with_reducible refine (givesFlat (hS.out _ hcur.out)).mono ?_; rintro e wS ⟨A3, c3, rfl, hO3, hcS⟩; replace hO3 := hid (own_base_mono hO3 hcur.out.size); replace hcur := hid (hThen.out _ _ hcur.out hcS); replace hJc := hid (hJc.out.chg hcS not_nothing); replace hOc := hid (own_calm hOc.out hcS); replace hXc := hid (hXc.out.chg hcS not_nothing); replace hcS := hid hcS))
 all_goals
  go_wp2
  go_ret
  exact ⟨⟨A3, c3, rfl, hO3.out⟩, hJc.out, hOc.out, hcur.out⟩
theorem infoI18 : (Tryz.prog.info? 3).map (fun i => (i.zero, i.size, i.bytes)) = some (some (.int .i64 0), 1, 8) := by kernel_rfl
theorem rrClone_any (F : Nat → Prop) (A : Option Addr) (n c : Nat) (xs : List RP) (w : World) (H : ElsAt rpV rp0 F w A n c xs) (hn9 : n ≤ 2000000000000) :
  Calls Tryz.prog 49 #[.slice A n c] w fun e w' => ∃ A' c', e = .returned (.slice A' n c') ∧ w'.ownsRow w.heap.size 37 1 (.slice A' n c') n (xs.map rpV) ∧ Chg Nothing w w' := by
 have hle := H.2.1
 have hmx := H.2.2.1
 have hnl := H.1
 have hl := H.2.2.2.1
 have hnw := hid ((H.chg ((Chg.refl Nothing w).alloc (.cells #[] 37)) (fun _ _ _ h => h)).cells')
 have hlh := hid hl
 cases A with
 | none =>
  have hc0 : c = 0 := hnl rfl
  subst hc0
  have hn0 : n = 0 := by omega
  subst hn0
  have hx0 : xs = [] := List.eq_nil_of_length_eq_zero hl
  subst hx0
  have hq : ∀ w, (binOp .eql 43 (.slice none 0 0) (.slice none 0 0)).run Tryz.prog w = .ok (.bool true) w := fun w => Go.Lib.run_eql_slice_nil (P := Tryz.prog) w 43 _ none 0 0 0 0 Tryz.underlying43
  clear H hl
  go_enter Tryz.func49, Tryz.ntmps49
  go_wp2
  go_ret
  exact ⟨none, 0, rfl, World.ownsRow_nil _ _ _ _, Chg.refl _ _⟩
 | some ad =>
  have hown : (w.alloc (.cells #[] 37)).ownsRow w.heap.size 37 1 (.slice (some ⟨w.heap.size, 0, none⟩) 0 0) 0 [] := ⟨rfl, .inr ⟨w.heap.size, 0, #[], rfl, Nat.le_refl _, heap_alloc_new w _, Nat.le_refl _, by unfold maxLen; omega, rfl, rfl⟩⟩
  have hq : ∀ w, (binOp .eql 43 (.slice (some ad) n c) (.slice none 0 0)).run Tryz.prog w = .ok (.bool false) w := fun w => Go.Lib.run_eql_slice_nil (P := Tryz.prog) w 43 _ (some ad) n c 0 0 Tryz.underlying43
  clear H hl
  go_enter Tryz.func49, Tryz.ntmps49
  go_wp2_with (at_builtin; refine append_gen rfl _ _ 43 rfl w.heap.size 37 (.slice none 0 0) 1 24 Tryz.underlying43 infoRR rfl (by decide) (some ⟨w.heap.size, 0, none⟩) 0 0 _ rfl hown (some ad) n c (xs.map rpV) rfl (by rw [List.length_map, hlh.out, Nat.mul_one]) (fun e => by cases e) hle hnw.out (els_one (fun _ => rfl) xs) ?_ ?_ ?_ ?_)
  ·unfold maxLen; omega
  ·omega
  ·rw [World.size_alloc]; omega
  intro A' c' w6 hown6 hc6 hA6
  have hO6 := hid hown6
  have hC6 := hid (((Chg.refl Nothing w).alloc (.cells #[] 37)).then hc6 (fun i hi h => by obtain ⟨a, e, hk⟩ := h; injection e with e; subst e; simp only at hk; omega))
  clear hown6 hc6 hA6
  go_wp2
  go_ret
  exact ⟨A', c', by simp, by simpa using hO6.out, hC6.out⟩
theorem intClone_any (F : Nat → Prop) (A : Option Addr) (n c : Nat) (xs : List Int) (w : World) (H : ElsAt (Value.int .i64) 0 F w A n c xs) (hn9 : n ≤ 2000000000000) :
  Calls Tryz.prog 50 #[.slice A n c] w fun e w' => ∃ A' c', e = .returned (.slice A' n c') ∧ w'.ownsRow w.heap.size 3 1 (.slice A' n c') n (xs.map (Value.int .i64)) ∧ Chg Nothing w w' := by
 have hle := H.2.1
 have hmx := H.2.2.1
 have hnl := H.1
 have hl := H.2.2.2.1
 have hnw := hid ((H.chg ((Chg.refl Nothing w).alloc (.cells #[] 3)) (fun _ _ _ h => h)).cells')
 have hlh := hid hl
 cases A with
 | none =>
  have hc0 : c = 0 := hnl rfl
  subst hc0
  have hn0 : n = 0 := by omega
  subst hn0
  have hx0 : xs = [] := List.eq_nil_of_length_eq_zero hl
  subst hx0
  have hq : ∀ w, (binOp .eql 37 (.slice none 0 0) (.slice none 0 0)).run Tryz.prog w = .ok (.bool true) w := fun w => Go.Lib.run_eql_slice_nil (P := Tryz.prog) w 37 _ none 0 0 0 0 Tryz.underlying37
  clear H hl
  go_enter Tryz.func50, Tryz.ntmps50
  go_wp2
  go_ret
  exact ⟨none, 0, rfl, World.ownsRow_nil _ _ _ _, Chg.refl _ _⟩
 | some ad =>
  have hown : (w.alloc (.cells #[] 3)).ownsRow w.heap.size 3 1 (.slice (some ⟨w.heap.size, 0, none⟩) 0 0) 0 [] := ⟨rfl, .inr ⟨w.heap.size, 0, #[], rfl, Nat.le_refl _, heap_alloc_new w _, Nat.le_refl _, by unfold maxLen; omega, rfl, rfl⟩⟩
  have hq : ∀ w, (binOp .eql 37 (.slice (some ad) n c) (.slice none 0 0)).run Tryz.prog w = .ok (.bool false) w := fun w => Go.Lib.run_eql_slice_nil (P := Tryz.prog) w 37 _ (some ad) n c 0 0 Tryz.underlying37
  clear H hl
  go_enter Tryz.func50, Tryz.ntmps50
  go_wp2_with (at_builtin; refine append_gen rfl _ _ 37 rfl w.heap.size 3 (.int .i64 0) 1 8 Tryz.underlying37 infoI18 rfl (by decide) (some ⟨w.heap.size, 0, none⟩) 0 0 _ rfl hown (some ad) n c (xs.map (Value.int .i64)) rfl (by rw [List.length_map, hlh.out, Nat.mul_one]) (fun e => by cases e) hle hnw.out (nums_one xs .i64) ?_ ?_ ?_ ?_)
  ·unfold maxLen; omega
  ·omega
  ·rw [World.size_alloc]; omega
  intro A' c' w6 hown6 hc6 hA6
  have hO6 := hid hown6
  have hC6 := hid (((Chg.refl Nothing w).alloc (.cells #[] 3)).then hc6 (fun i hi h => by obtain ⟨a, e, hk⟩ := h; injection e with e; subst e; simp only at hk; omega))
  clear hown6 hc6 hA6
  go_wp2
  go_ret
  exact ⟨A', c', by simp, by simpa using hO6.out, hC6.out⟩
theorem odd_any (F : Nat → Prop) (A : Option Addr) (n c : Nat) (xs : List Int) (w : World) (h : IntsAt F w A n c xs) :
  Calls Tryz.prog 40 #[.slice A n c] w fun e w' => e = .returned (.bool (!rgtS (-1) xs)) ∧ w = w' := by
 have hS := hid (setRight_any F A n c xs w h)
 clear h
 go_enter Tryz.func40, Tryz.ntmps40
 go_wp2_with fail
 refine hS.out.mono ?_
 rintro e w1 ⟨rfl, rfl⟩
 go_wp2
 go_ret
 exact ⟨rfl, rfl⟩
def IxrInv (qs : List RP) (w : World) (iv : Value) (wr : World) : Prop := ∃ k : Nat, k ≤ qs.length ∧ iv = .int .i64 k ∧ Hid ((qs.take k).any (fun q => !rgtS (-1) q.xs) = false) ∧ Chg Nothing w wr
def IxrAns (qs : List RP) (w : World) (e : Ending) (w' : World) : Prop := ∃ r : Int, e = .returned (.int .i64 r) ∧ decide (0 ≤ r) = qs.any (fun q => !rgtS (-1) q.xs) ∧ Chg Nothing w w'
theorem indexRows_any (F G : Nat → Prop) (A : Option Addr) (n c : Nat) (qs : List RP) (w : World) (H : RRow F G w A n c qs) :
  Calls Tryz.prog 76 #[.slice A n c, .func (.func 40) #[] #[]] w (IxrAns qs w) := by
 have HH := hid H
 have hle := H.row.2.1
 have hmx := H.row.2.2.1
 have hlen := hid H.row.2.2.2.1
 clear H
 go_enter Tryz.func76, Tryz.ntmps76
 go_wp2_with fail
 go_loopw [8] (fun iv wr => IxrInv qs w iv wr) (fun iv _ => n - (intOf iv).toNat)
 case atStart => exact ⟨0, Nat.zero_le _, rfl, hid rfl, Chg.refl _ _⟩
 case round =>
  obtain ⟨k, hk, rfl, hall, hchg⟩ := hrel
  rw [hlen.out] at hk
  rcases Nat.lt_or_ge k n with hkn | hkn
  ·obtain ⟨g, o, rfl, -, hgl, c0⟩ := (HH.out.calm hchg).row.at_ hkn
   have hkl : k < qs.length := by rw [hlen.out]; exact hkn
   obtain ⟨q, hq⟩ : ∃ q, q = qs.getD k rp0 := ⟨_, rfl⟩
   have hmem : q ∈ qs := by rw [hq]; simp [hkl]
   have htk := hid (show qs.take (k + 1) = qs.take k ++ [q] from by rw [List.take_succ_eq_append_getElem hkl, hq]; simp [hkl])
   rw [← hq] at c0
   replace hq := hid hq
   have hcl := hid (odd_any G q.A q.l q.c q.xs wr ((HH.out.calm hchg).els q hmem))
   replace hmem := hid hmem
   unfold rpV at c0
   clear hkl
   have hk0 : (0 : Int) ≤ (k : Int) := by omega
   have hkn' : (k : Int) < (n : Int) := by omega
   cases hb : rgtS (-1) q.xs with
   | true =>
    rw [hb] at hcl
    have hnx := hid (show (qs.take (k + 1)).any (fun q => !rgtS (-1) q.xs) = false from by rw [htk.out, List.any_append, hall.out]; simp [hb])
    replace hb := hid hb
    go_wp2_with fail
    refine hcl.out.mono ?_
    rintro e w1 ⟨rfl, rfl⟩
    go_wp2
    go_roundw
    case rel => exact ⟨k + 1, by rw [hlen.out]; exact hkn, by go_num, hnx, hchg⟩
    case measure => simp [intOf]; omega
   | false =>
    rw [hb] at hcl
    have hany := hid (show qs.any (fun q => !rgtS (-1) q.xs) = true from by rw [List.any_eq_true]; exact ⟨q, hmem.out, by rw [hb]; rfl⟩)
    replace hb := hid hb
    go_wp2_with fail
    refine hcl.out.mono ?_
    rintro e w1 ⟨rfl, rfl⟩
    go_wp2
    go_ret
    exact ⟨_, rfl, by rw [hany.out]; exact decide_eq_true hk0, hchg⟩
  ·have hd : decide ((k : Int) < (n : Int)) = false := decide_eq_false (by omega)
   have hall2 := hid (show qs.any (fun q => !rgtS (-1) q.xs) = false from by
    have := hall.out
    rwa [List.take_of_length_le (by rw [hlen.out]; exact hkn)] at this)
   go_wp2
   go_ret
   exact ⟨-1, rfl, by rw [hall2.out]; rfl, hchg⟩
theorem containsRows_any (F G : Nat → Prop) (A : Option Addr) (n c : Nat) (qs : List RP) (w : World) (H : RRow F G w A n c qs) :
  Calls Tryz.prog 43 #[.slice A n c, .func (.func 40) #[] #[]] w fun e w' => e = .returned (.bool (qs.any fun q => !rgtS (-1) q.xs)) ∧ Chg Nothing w w' := by
 have HH := hid H
 clear H
 go_enter Tryz.func43, Tryz.ntmps43
 go_wp2_with fail
 refine (indexRows_any F G A n c qs _ HH.out).mono ?_
 rintro e w1 ⟨r, rfl, hr, hc⟩
 have hb := hid hr
 clear hr
 go_wp2
 go_ret
 exact ⟨by rw [← hb.out]; rfl, hc⟩
structure JS (N : Int) (qs : List RP) (jb : Nat) (FA : Option Addr) (fc base : Nat) (PA : Option Addr) (pc mm : Nat) (st : List RP) (G : Nat → Prop) (w : World) : Prop where
 blk : Blk w jb #[.slice FA mm fc, .slice PA st.length pc, .int .i64 N] 74
 own : w.ownsRow base 37 1 (.slice PA st.length pc) st.length (st.reverse.map rpV)
 fnd : ElsAt rpV rp0 (fun k => k ≠ jb ∧ ¬ Of PA k) w FA qs.length fc qs
 rin : ∀ r ∈ st, RIn G w r
 qin : ∀ q ∈ qs, RIn G w q
 gok : ∀ k, G k → k < w.heap.size ∧ k ≠ jb ∧ ¬ Of PA k
 jne : ¬ Of PA jb
theorem JS.next {N : Int} {qs : List RP} {jb : Nat} {FA : Option Addr} {fc base : Nat} {PA : Option Addr} {pc mm : Nat} {st : List RP} {G : Nat → Prop} {w : World} (h : JS N qs jb FA fc base PA pc mm st G w) {w' : World} {m' : Nat} {st' : List RP} (hc : Chg (One jb) w w')
  (hb : Blk w' jb #[.slice FA m' fc, .slice PA st'.length pc, .int .i64 N] 74) (ho : w'.ownsRow base 37 1 (.slice PA st'.length pc) st'.length (st'.reverse.map rpV)) (hs : ∀ r ∈ st', r ∈ st) : JS N qs jb FA fc base PA pc m' st' (fun k => (G k ∨ w.heap.size ≤ k) ∧ k < w'.heap.size) w' := by
 have hG : ∀ k, k < w.heap.size → G k → ((G k ∨ w.heap.size ≤ k) ∧ k < w'.heap.size) := fun k hk hg => ⟨.inl hg, Nat.lt_of_lt_of_le hk hc.size⟩
 have hR : ∀ r, RIn G w r → RIn (fun k => (G k ∨ w.heap.size ≤ k) ∧ k < w'.heap.size) w' r := fun r hr => ElsAt.chg (hr.mono hG) hc (fun k hk hg e => by
  rcases hg.1 with hg | hg
  ·exact (h.gok k hg).2.1 e
  ·omega)
 refine ⟨hb, ho, h.fnd.chg hc (fun k hk hF e => hF.1 e), fun r hr => hR r (h.rin r (hs r hr)), fun q hq => hR q (h.qin q hq), fun k hk => ⟨hk.2, ?_, ?_⟩, h.jne⟩
 ·rcases hk.1 with hg | hg
  ·exact (h.gok k hg).2.1
  ·have := h.blk.lt; omega
 ·rcases hk.1 with hg | hg
  ·exact (h.gok k hg).2.2
  ·intro e; have := own_of h.own k e; omega
theorem JS.push {N : Int} {qs : List RP} {jb : Nat} {FA : Option Addr} {fc base : Nat} {PA : Option Addr} {pc mm : Nat} {st : List RP} {G : Nat → Prop} {w : World} (h : JS N qs jb FA fc base PA pc mm st G w) {r : RP} (hr : RIn G w r) {PA' : Option Addr} {pc' : Nat} {w' : World}
  (ho : w'.ownsRow base 37 1 (.slice PA' (st.length + 1) pc') (st.length + 1) (st.reverse.map rpV ++ [rpV r])) (hc : Chg (Of PA) w w') (hA : ∀ k, Of PA' k → Of PA k ∨ w.heap.size ≤ k) : JS N qs jb FA fc base PA' pc' mm (r :: st) G (w'.setCell ⟨jb, 1, none⟩ (.slice PA' (st.length + 1) pc')) := by
 have hj' : ¬ Of PA' jb := fun e => by
  rcases hA jb e with e | e
  ·exact h.jne e
  ·have := h.blk.lt; omega
 have hst : Chg (One jb) w' (w'.setCell ⟨jb, 1, none⟩ (.slice PA' (st.length + 1) pc')) := (Chg.refl (One jb) w').setOne 1 _
 have hR : ∀ q, RIn G w q → RIn G (w'.setCell ⟨jb, 1, none⟩ (.slice PA' (st.length + 1) pc')) q := fun q hq => ElsAt.chg (ElsAt.chg hq hc (fun k hk hg e => (h.gok k hg).2.2 e)) hst (fun k hk hg e => (h.gok k hg).2.1 e)
 refine ⟨((h.blk.chg hc h.jne).set 1 _), ?_, ?_, fun q hq => ?_, fun q hq => hR q (h.qin q hq), fun k hk => ⟨?_, (h.gok k hk).2.1, fun e => ?_⟩, hj'⟩
 ·have := own_chg ho hst (fun k hk e => hj' ((show k = jb from e) ▸ hk))
  simpa using this
 ·refine ((h.fnd.mono (G := fun k => (k ≠ jb ∧ ¬ Of PA k) ∧ k < w.heap.size) (fun k hk hF => ⟨hF, hk⟩)).chg hc (fun k hk hF e => hF.1.2 e)).chg hst (fun k hk hF e => hF.1.1 e) |>.mono (fun k _ hF => ⟨hF.1.1, fun e => ?_⟩)
  rcases hA k e with e | e
  ·exact hF.1.2 e
  ·have := hF.2; omega
 ·rcases List.mem_cons.1 hq with rfl | hq
  ·exact hR _ hr
  ·exact hR _ (h.rin q hq)
 ·have := (h.gok k hk).1
  have h2 := hc.size
  simp only [World.size_setCell]
  omega
 ·rcases hA k e with e | e
  ·exact (h.gok k hk).2.2 e
  ·have := (h.gok k hk).1; omega
def StepAns (N : Int) (qs : List RP) (jb : Nat) (FA : Option Addr) (fc base : Nat) (PA : Option Addr) (pc : Nat) (s' : Nat × List (List Int)) (w : World) (e : Ending) (w' : World) : Prop :=
 ∃ (r : RP) (m' : Nat) (st' : List RP) (G' : Nat → Prop), e = .returned (.slice r.A r.l r.c) ∧ s' = (m', r.xs :: st'.map RP.xs) ∧ JS N qs jb FA fc base PA pc m' st' G' w' ∧ RIn G' w' r ∧ Chg (One jb) w w'
structure StepH (N : Int) (qs : List RP) (jb : Nat) (FA : Option Addr) (fc base : Nat) (PA : Option Addr) (pc mm : Nat) (st : List RP) (G : Nat → Prop) (w : World) (p : NP) (s' : Nat × List (List Int)) : Prop where
 js : JS N qs jb FA fc base PA pc mm st G w
 mq : mm ≤ qs.length
 fine : ∀ r ∈ st, FineR r.xs ∧ r.xs.length ≤ 1000000000000
 xn : p.x.n ≤ 9223372036854775807
 step : stepJ N (qs.map RP.xs) p.x (mm, st.map RP.xs) = some s'
theorem map_getD_xs (qs : List RP) (k : Nat) : (qs.map RP.xs).getD k [] = (qs.getD k rp0).xs := by
 simp only [List.getD_eq_getElem?_getD, List.getElem?_map]
 cases qs[k]? <;> rfl
theorem kind1_step {N : Int} {qs : List RP} {jb : Nat} {FA : Option Addr} {fc base : Nat} {PA : Option Addr} {pc mm : Nat} {st : List RP} {G : Nat → Prop} {w : World} {p : NP} {s' : Nat × List (List Int)} (h : StepH N qs jb FA fc base PA pc mm st G w p s') (hk : p.x.kind = 1) : Calls Tryz.prog 44 #[.pointer (some ⟨jb, 0, none⟩), ndV p] w (StepAns N qs jb FA fc base PA pc s' w) := by
 obtain ⟨js, mq, fine, xn, step⟩ := h
 unfold stepJ at step
 rw [if_pos hk] at step
 cases mm with
 | zero => cases step
 | succ k =>
  injection step with step
  subst step
  refine (jfind_any jb _ _ FA k fc qs _ qs.length p w js.blk js.fnd mq).mono ?_
  rintro e w' ⟨rfl, hb, hc⟩
  have ho := own_chg js.own hc (fun j hj e => js.jne ((show j = jb from e) ▸ hj))
  have hn := js.next hc hb ho (fun r hr => hr)
  refine ⟨qs.getD k rp0, k, st, _, rfl, by rw [map_getD_xs], hn, hn.qin _ (by simp [show k < qs.length from mq]), hc⟩
theorem kind4_step {N : Int} {qs : List RP} {jb : Nat} {FA : Option Addr} {fc base : Nat} {PA : Option Addr} {pc mm : Nat} {st : List RP} {G : Nat → Prop} {w : World} {p : NP} {s' : Nat × List (List Int)} (h : StepH N qs jb FA fc base PA pc mm st G w p s') (hk : p.x.kind = 4) : Calls Tryz.prog 47 #[.pointer (some ⟨jb, 0, none⟩), ndV p] w (StepAns N qs jb FA fc base PA pc s' w) := by
 obtain ⟨js, mq, fine, xn, step⟩ := h
 unfold stepJ at step
 rw [if_neg (by omega), if_pos hk] at step
 cases st with
 | nil => cases step
 | cons a q =>
  injection step with step
  subst step
  have ho := js.own
  rw [List.reverse_cons, List.map_append] at ho
  have hfa := fine a (by simp)
  refine (jnot_any jb _ N PA q.length pc _ base G a p w js.blk ho js.jne (js.rin a (by simp)) (fun k hg => ⟨(js.gok k hg).1, (js.gok k hg).2.1⟩) hfa.2).mono ?_
  rintro e w' ⟨⟨A', c', rfl, hOr⟩, hb, ho', hc⟩
  have hn := js.next (st' := q) hc hb ho' (fun r hr => by simp [hr])
  refine ⟨⟨notL a.xs N, A', (notL a.xs N).length, c'⟩, mm, q, _, rfl, rfl, hn, ?_, hc⟩
  exact (ElsAt.of_own (d := (0 : Int)) hOr).mono (fun k hk h => ⟨.inr h.2, hk⟩)
theorem kind5_step {N : Int} {qs : List RP} {jb : Nat} {FA : Option Addr} {fc base : Nat} {PA : Option Addr} {pc mm : Nat} {st : List RP} {G : Nat → Prop} {w : World} {p : NP} {s' : Nat × List (List Int)} (h : StepH N qs jb FA fc base PA pc mm st G w p s') (hk : p.x.kind = 5) : Calls Tryz.prog 48 #[.pointer (some ⟨jb, 0, none⟩), ndV p] w (StepAns N qs jb FA fc base PA pc s' w) := by
 obtain ⟨js, mq, fine, xn, step⟩ := h
 unfold stepJ at step
 rw [if_neg (by omega), if_neg (by omega), if_pos hk] at step
 cases st with
 | nil => cases step
 | cons a q =>
  injection step with step
  subst step
  have ho := js.own
  rw [List.reverse_cons, List.map_append] at ho
  have hfa := fine a (by simp)
  refine (jshift_any jb _ _ PA q.length pc _ base G a p w js.blk ho js.jne (js.rin a (by simp)) (fun k hg => ⟨(js.gok k hg).1, (js.gok k hg).2.1⟩) hfa.2 xn hfa.1.2).mono ?_
  rintro e w' ⟨⟨A', c', rfl, hOr⟩, hb, ho', hc⟩
  have hn := js.next (st' := q) hc hb ho' (fun r hr => by simp [hr])
  refine ⟨⟨shiftL a.xs p.x.n, A', (shiftL a.xs p.x.n).length, c'⟩, mm, q, _, rfl, rfl, hn, ?_, hc⟩
  exact (ElsAt.of_own (d := (0 : Int)) hOr).mono (fun k hk h => ⟨.inr h.2, hk⟩)
theorem kind2_step {N : Int} {qs : List RP} {jb : Nat} {FA : Option Addr} {fc base : Nat} {PA : Option Addr} {pc mm : Nat} {st : List RP} {G : Nat → Prop} {w : World} {p : NP} {s' : Nat × List (List Int)} (h : StepH N qs jb FA fc base PA pc mm st G w p s') (hk : p.x.kind = 2) : Calls Tryz.prog 45 #[.pointer (some ⟨jb, 0, none⟩), ndV p] w (StepAns N qs jb FA fc base PA pc s' w) := by
 obtain ⟨js, mq, fine, xn, step⟩ := h
 unfold stepJ at step
 rw [if_neg (by omega), if_neg (by omega), if_neg (by omega), if_pos hk] at step
 rcases st with _ | ⟨a, _ | ⟨b, q⟩⟩
 ·cases step
 ·cases step
 ·injection step with step
  subst step
  have ho := js.own
  rw [List.reverse_cons, List.reverse_cons, List.append_assoc, List.map_append] at ho
  have hfa := fine a (by simp)
  have hfb := fine b (by simp)
  refine (jand_any jb _ _ PA q.length pc _ base G a b p w js.blk ho js.jne (js.rin a (by simp)) (js.rin b (by simp)) (fun k hg => ⟨(js.gok k hg).1, (js.gok k hg).2.1⟩) hfa.2 hfb.2).mono ?_
  rintro e w' ⟨⟨A', c', rfl, hOr⟩, hb, ho', hc⟩
  have hn := js.next (st' := q) hc hb ho' (fun r hr => by simp [hr])
  refine ⟨⟨andL a.xs b.xs, A', (andL a.xs b.xs).length, c'⟩, mm, q, _, rfl, rfl, hn, ?_, hc⟩
  exact (ElsAt.of_own (d := (0 : Int)) hOr).mono (fun k hk h => ⟨.inr h.2, hk⟩)
theorem kind3_step {N : Int} {qs : List RP} {jb : Nat} {FA : Option Addr} {fc base : Nat} {PA : Option Addr} {pc mm : Nat} {st : List RP} {G : Nat → Prop} {w : World} {p : NP} {s' : Nat × List (List Int)} (h : StepH N qs jb FA fc base PA pc mm st G w p s') (hk : p.x.kind = 3) : Calls Tryz.prog 46 #[.pointer (some ⟨jb, 0, none⟩), ndV p] w (StepAns N qs jb FA fc base PA pc s' w) := by
 obtain ⟨js, mq, fine, xn, step⟩ := h
 unfold stepJ at step
 rw [if_neg (by omega), if_neg (by omega), if_neg (by omega), if_neg (by omega), if_pos hk] at step
 rcases st with _ | ⟨a, _ | ⟨b, q⟩⟩
 ·cases step
 ·cases step
 ·injection step with step
  subst step
  have ho := js.own
  rw [List.reverse_cons, List.reverse_cons, List.append_assoc, List.map_append] at ho
  have hfa := fine a (by simp)
  have hfb := fine b (by simp)
  refine (jor_any jb _ _ PA q.length pc _ base G a b p w js.blk ho js.jne (js.rin a (by simp)) (js.rin b (by simp)) (fun k hg => ⟨(js.gok k hg).1, (js.gok k hg).2.1⟩) hfa.2 hfb.2).mono ?_
  rintro e w' ⟨⟨A', c', rfl, hOr⟩, hb, ho', hc⟩
  have hn := js.next (st' := q) hc hb ho' (fun r hr => by simp [hr])
  refine ⟨⟨orL a.xs b.xs, A', (orL a.xs b.xs).length, c'⟩, mm, q, _, rfl, rfl, hn, ?_, hc⟩
  exact (ElsAt.of_own (d := (0 : Int)) hOr).mono (fun k hk h => ⟨.inr h.2, hk⟩)
def cntN (L : List Nd) : Nat := (L.filter fun x => decide (x.kind = 1)).length
def joinV (N : Int) (L : List Nd) (fs : List (List Int)) : List Int := match takeT L.length L with
 | some (t, _) => (gtV N t fs).1
 | none => []
def joinB (L : List Nd) (fs : List (List Int)) : Bool := rightN L && decide (fs.length = cntN L) && fs.all (fun l => rgtS (-1) l)
def joinL (N : Int) (L : List Nd) (fs : List (List Int)) : List Int := if joinB L fs = true then joinV N L fs else []
theorem joinV_tree {t : GT} (h : t.ok) (N : Int) (fs : List (List Int)) : joinV N t.flat fs = (gtV N t fs).1 := by
 have := takeT_flat t t.flat.length [] h (Nat.le_refl _)
 rw [List.append_nil] at this
 unfold joinV; rw [this]
theorem right_tree18 {L : List Nd} (h : rightN L = true) : L.length ≤ 64 ∧ ∃ t : GT, t.ok ∧ L = t.flat := by
 unfold rightN at h
 simp only [Bool.and_eq_true, decide_eq_true_eq] at h
 exact ⟨h.1.1.1, depthN_pos (by omega)⟩
theorem joinB_run {N : Int} {L : List Nd} {fs : List (List Int)} (h : joinB L fs = true) : L.length ≤ 64 ∧ (∀ l ∈ fs, rgtS (-1) l = true) ∧ runJ N fs L (fs.length, []) = some (0, [joinV N L fs]) := by
 unfold joinB at h
 simp only [Bool.and_eq_true, decide_eq_true_eq, List.all_eq_true] at h
 obtain ⟨⟨h1, h2⟩, h3⟩ := h
 obtain ⟨h64, t, ht, rfl⟩ := right_tree18 h1
 refine ⟨h64, h3, ?_⟩
 unfold cntN at h2
 rw [cnt_flat ht] at h2
 have := runJ_tree N fs t ht 0 [] (by omega)
 rw [Nat.zero_add, ← h2, List.drop_zero] at this
 rw [this, joinV_tree ht]
theorem run_prev {N : Int} {fs : List (List Int)} {L : List Nd} {s0 s : Nat × List (List Int)} (h : runJ N fs L s0 = some s) {k : Nat} (hk : k < L.length) (d : Nd) :
  ∃ s1 s2, runJ N fs (L.drop (k + 1)) s0 = some s1 ∧ stepJ N fs (L.getD k d) s1 = some s2 ∧ runJ N fs (L.drop k) s0 = some s2 := by
 have h1 : runJ N fs (L.take k ++ L.drop k) s0 = some s := by rw [List.take_append_drop]; exact h
 rw [runJ_append] at h1
 cases h2 : runJ N fs (L.drop k) s0 with
 | none => rw [h2] at h1; cases h1
 | some s2 =>
  have h3 := h2
  rw [List.drop_eq_getElem_cons hk] at h3
  simp only [runJ] at h3
  cases h4 : runJ N fs (L.drop (k + 1)) s0 with
  | none => rw [h4] at h3; cases h3
  | some s1 =>
   rw [h4] at h3
   exact ⟨s1, s2, rfl, by rw [show L.getD k d = L[k] from by simp [hk]]; exact h3, rfl⟩
theorem run_good {N : Int} {fs : List (List Int)} (hf : ∀ r ∈ fs, FineR r) : ∀ (L : List Nd) (s : Nat × List (List Int)), runJ N fs L (fs.length, []) = some s → GoodJ fs (sumR fs + 100000 * L.length) s ∧ s.2.length ≤ L.length := by
 intro L
 induction L with
 | nil =>
  intro s h
  injection h with h; subst h
  exact ⟨⟨Nat.le_refl _, by simp, by simp [sumR]⟩, by simp⟩
 | cons x L ih =>
  intro s h
  simp only [runJ] at h
  cases h1 : runJ N fs L (fs.length, []) with
  | none => rw [h1] at h; cases h
  | some s1 =>
   rw [h1] at h
   obtain ⟨i1, i2⟩ := ih s1 h1
   have h2 : stepJ N fs x s1 = some s := h
   have h3 := stepJ_good hf h2 i1
   refine ⟨⟨h3.le, h3.fine, Nat.le_trans h3.sum (by simp only [List.length_cons]; omega)⟩, ?_⟩
   have : s.2.length ≤ s1.2.length + 1 := by
    obtain ⟨m, st⟩ := s1
    unfold stepJ at h2
    split at h2
    ·cases m with
     | zero => cases h2
     | succ k => injection h2 with h2; subst h2; simp
    ·split at h2
     ·cases st with
      | nil => cases h2
      | cons a q => injection h2 with h2; subst h2; simp
     ·split at h2
      ·cases st with
       | nil => cases h2
       | cons a q => injection h2 with h2; subst h2; simp
      ·split at h2
       ·rcases st with _ | ⟨a, _ | ⟨b, q⟩⟩
        ·cases h2
        ·cases h2
        ·injection h2 with h2; subst h2; simp
       ·split at h2
        ·rcases st with _ | ⟨a, _ | ⟨b, q⟩⟩
         ·cases h2
         ·cases h2
         ·injection h2 with h2; subst h2; simp
        ·cases h2
   simp only [List.length_cons]; omega
theorem mem_sumR {l : List Int} {fs : List (List Int)} (h : l ∈ fs) : l.length ≤ sumR fs := by
 induction fs with
 | nil => cases h
 | cons x fs ih =>
  rw [sumR_cons]
  rcases List.mem_cons.1 h with rfl | h
  ·omega
  ·have := ih h; omega
theorem step_kind {N : Int} {fs : List (List Int)} {x : Nd} {s s' : Nat × List (List Int)} (h : stepJ N fs x s = some s') : x.kind = 1 ∨ x.kind = 2 ∨ x.kind = 3 ∨ x.kind = 4 ∨ x.kind = 5 := by
 unfold stepJ at h
 split at h
 ·exact .inl ‹_›
 ·split at h
  ·exact .inr (.inr (.inr (.inl ‹_›)))
  ·split at h
   ·exact .inr (.inr (.inr (.inr ‹_›)))
   ·split at h
    ·exact .inr (.inl ‹_›)
    ·split at h
     ·exact .inr (.inr (.inl ‹_›))
     ·cases h
theorem leavesP_cnt (ps : List NP) : (leavesP ps).length = cntN (ps.map NP.x) := by
 unfold leavesP cntN
 rw [List.length_map, List.filter_map, List.length_map]
 rfl
theorem JS.drew {N : Int} {qs : List RP} {jb : Nat} {FA : Option Addr} {fc base : Nat} {PA : Option Addr} {pc mm : Nat} {st : List RP} {G : Nat → Prop} {w : World} (h : JS N qs jb FA fc base PA pc mm st G w) : JS N qs jb FA fc base PA pc mm st G w.drew :=
 have hc := (Chg.refl Nothing w).drew
 ⟨h.blk.drew, own_chg h.own hc (fun _ _ h => h), h.fnd.chg hc (fun _ _ _ h => h), fun r hr => ElsAt.chg (h.rin r hr) hc (fun _ _ _ h => h), fun q hq => ElsAt.chg (h.qin q hq) hc (fun _ _ _ h => h), fun k hk => h.gok k hk, h.jne⟩
theorem undMapJ : Tryz.prog.underlying 71 = some (.map 3 68) := Tryz.underlying71
def JoinAns (N : Int) (L : List Nd) (fs : List (List Int)) (w : World) (e : Ending) (w' : World) : Prop :=
 ∃ A' c', e = .returned (.tuple #[.slice A' (joinL N L fs).length c', .bool (joinB L fs)]) ∧ w'.ownsRow w.heap.size 3 1 (.slice A' (joinL N L fs).length c') (joinL N L fs).length ((joinL N L fs).map (Value.int .i64)) ∧ Chg Nothing w w'
theorem JoinAns.no {N : Int} {L : List Nd} {fs : List (List Int)} {w w' : World} (h : joinB L fs = false) (hc : Chg Nothing w w') : JoinAns N L fs w (.returned (.tuple #[.slice none 0 0, .bool false])) w' := by
 have e : joinL N L fs = [] := by unfold joinL; rw [h]; rfl
 unfold JoinAns
 rw [e, h]
 exact ⟨none, 0, rfl, World.ownsRow_nil _ _ _ _, hc⟩
def JnInv (N : Int) (L : List Nd) (qs : List RP) (n jb : Nat) (FA : Option Addr) (fc : Nat) (w6 : World) (iv : Value) (wr : World) : Prop :=
 ∃ (k : Nat) (i : Int) (PA : Option Addr) (pc mm : Nat) (st : List RP) (G : Nat → Prop), k ≤ n ∧ i = (k : Int) - 1 ∧ iv = .int .i64 i ∧ Hid (runJ N (qs.map RP.xs) (L.drop k) ((qs.map RP.xs).length, []) = some (mm, st.map RP.xs)) ∧ Hid (JS N qs jb FA fc jb PA pc mm st G wr) ∧ Chg Nothing w6 wr
theorem evalJoin_any (F F2 G : Nat → Prop) (A : Option Addr) (n c : Nat) (ps : List NP) (FA : Option Addr) (m fc : Nat) (qs : List RP) (N : Int) (w : World) (H : NRow F w A n c ps) (hn : n ≤ 1000000) (R : RRow F2 G w FA m fc qs) (hG : ∀ k, G k → k < w.heap.size) (hm : m ≤ 1000000)
  (hz : ∀ q ∈ qs, ∀ z ∈ q.xs, z ≤ 9223372036854775807) (hsum : sumR (qs.map RP.xs) ≤ 100000000000) :
  Calls Tryz.prog 20 #[.slice A n c, .slice FA m fc, .int .i64 N] w (JoinAns N (ps.map NP.x) (qs.map RP.xs) w) := by
 have hRt := hid (Right_any F A n c ps w H hn)
 have hLv := hid (fun (w' : World) (hc : Chg Nothing w w') => leaves_any F A n c ps w' (H.calm hc) hn)
 have hCf := hid (fun (w' : World) (hc : Chg Nothing w w') => containsRows_any F2 G FA m fc qs w' (R.calm hc))
 have hCl := hid (fun (w' : World) (hc : Chg Nothing w w') => rrClone_any F2 FA m fc qs w' (R.calm hc).row (by omega))
 have hmq : qs.length = m := R.row.2.2.2.1
 have hlenL : (ps.map NP.x).length = n := by rw [List.length_map, H.len]
 have hcnt := leavesP_cnt ps
 have hRR := hid R
 have hGG := hid hG
 have hHH := hid (fun (w' : World) (hc : Chg Nothing w w') => H.calm hc)
 have hle := R.row.2.1
 have hmx := R.row.2.2.1
 have hle2 := H.row.le
 have hmx2 := H.row.max
 clear H R hG
 by_cases hr : rightN (ps.map NP.x) = true
 ·rw [hr] at hRt
  by_cases hlen : m = (leavesP ps).length
  ·cases hodd : (qs.any fun q => !rgtS (-1) q.xs) with
   | true =>
    rw [hodd] at hCf
    have hB : joinB (ps.map NP.x) (qs.map RP.xs) = false := by
     cases hj : joinB (ps.map NP.x) (qs.map RP.xs) with
     | false => rfl
     | true =>
      have := (joinB_run (N := 0) hj).2.1
      rw [List.any_eq_true] at hodd
      obtain ⟨q, hq, hb⟩ := hodd
      rw [this q.xs (List.mem_map_of_mem hq)] at hb
      cases hb
    have hBh := hid hB
    have hnb : ((m : Int) != (((leavesP ps).length : Nat) : Int)) = false := by rw [← hlen]; simp
    have hlh := hid hlen
    clear hz hsum hodd hr hB hcnt hlenL hlen
    go_enter Tryz.func20, Tryz.ntmps20
    go_wp2_with fail
    refine hRt.out.mono ?_
    rintro e w1 ⟨rfl, hc1⟩
    have hC1 := hid hc1
    clear hc1
    go_wp2_with fail
    refine (hLv.out _ hC1.out).mono ?_
    rintro e w2 ⟨B, j, d, rfl, hLR, -, hc2⟩
    have hC2 := hid (hC1.out.trans hc2)
    rw [hLR.len] at hnb
    clear hc2 hLR
    go_wp2_with fail
    refine (hCf.out _ hC2.out).mono ?_
    rintro e w3 ⟨rfl, hc3⟩
    have hC3 := hid (hC2.out.trans hc3)
    clear hc3
    go_wp2
    go_ret2
    exact JoinAns.no hBh.out hC3.out
   | false =>
    rw [hodd] at hCf
    have hall : ∀ q ∈ qs, FineR q.xs := fun q hq => ⟨by
     have := List.any_eq_false.1 hodd q hq
     simpa using this, hz q hq⟩
    have hB : joinB (ps.map NP.x) (qs.map RP.xs) = true := by
     unfold joinB
     rw [hr, ← hcnt, List.length_map, hmq, hlen]
     simp only [decide_true, Bool.true_and, List.all_eq_true]
     intro l hl
     obtain ⟨q, hq, rfl⟩ := List.mem_map.1 hl
     exact (hall q hq).1
    obtain ⟨h64, -, hrun⟩ := joinB_run (N := N) hB
    have hJL : joinL N (ps.map NP.x) (qs.map RP.xs) = joinV N (ps.map NP.x) (qs.map RP.xs) := by unfold joinL; rw [if_pos hB]
    have hgood := hid (run_good (N := N) (fs := qs.map RP.xs) (fun r hr => by obtain ⟨q, hq, rfl⟩ := List.mem_map.1 hr; exact hall q hq))
    have hnb : ((m : Int) != (((leavesP ps).length : Nat) : Int)) = false := by rw [← hlen]; simp
    have hrunh := hid hrun
    have hsumh := hid hsum
    unfold JoinAns
    rw [hJL, hB]
    obtain ⟨V, hV⟩ : ∃ V, joinV N (ps.map NP.x) (qs.map RP.xs) = V := ⟨_, rfl⟩
    rw [hV] at hrunh ⊢
    obtain ⟨L, hL⟩ : ∃ L, ps.map NP.x = L := ⟨_, rfl⟩
    rw [hL] at hrunh hlenL h64
    have hn64 : n ≤ 64 := by omega
    have hxn := hid (show ∀ p ∈ ps, p.x.n ≤ 9223372036854775807 from fun p hp => by
     have h1 := hr
     unfold rightN at h1
     simp only [Bool.and_eq_true, List.all_eq_true] at h1
     have h2 := (nodeD_iff p.x).1 (h1.1.1.2 p.x (List.mem_map_of_mem hp))
     unfold nodeB at h2
     have := h2.2.2.1
     omega)
    have hlh := hid hlen
    have hmqh := hid hmq
    have hLh := hid hL
    have hlL := hid hlenL
    clear hz hsum hodd hr hcnt hlenL hlen hB hJL hrun hall hV hL hmq h64
    have hmm := @run_makeMap Tryz.prog
    have hw1 : IntKind.i64.wrap ((n : Int) - 1) = (n : Int) - 1 := by rw [IntKind.wrap_i64]; omega
    go_enter Tryz.func20, Tryz.ntmps20
    go_wp2_with fail
    refine hRt.out.mono ?_
    rintro e w1 ⟨rfl, hc1⟩
    have hC1 := hid hc1
    clear hc1
    go_wp2_with fail
    refine (hLv.out _ hC1.out).mono ?_
    rintro e w2 ⟨B, j, d, rfl, hLR, -, hc2⟩
    have hC2 := hid (hC1.out.trans hc2)
    rw [hLR.len] at hnb
    clear hc2 hLR
    go_wp2_with fail
    refine (hCf.out _ hC2.out).mono ?_
    rintro e w3 ⟨rfl, hc3⟩
    have hC3 := hid (hC2.out.trans hc3)
    have hG3 := hid (FnM.made w3)
    have hC3b := hid (hC3.out.alloc (.map #[] 0))
    clear hc3
    go_wp2_with (refine wpList_fn_insT undMapJ rfl (.tmp 29) (.const (.int .i64 1)) (.func 44) rfl rfl hG3.out (by unfold maxLen; omega) 1 (by decide) _ rfl rfl rfl ?_)
    intro v1 hm1' hd1
    have hM1 := hid hm1'
    have hD1 := hid (hd1)
    clear hm1' hd1 hG3
    go_wp2_with (refine wpList_fn_insT undMapJ rfl (.tmp 29) (.const (.int .i64 2)) (.func 45) rfl rfl hM1.out (by unfold maxLen; omega) 2 (by decide) _ rfl rfl rfl ?_)
    intro v2 hm2' hd2
    have hM2 := hid hm2'
    have hD2 := hid (hD1.out.trans hd2)
    clear hm2' hd2 hM1 hD1
    go_wp2_with (refine wpList_fn_insT undMapJ rfl (.tmp 29) (.const (.int .i64 3)) (.func 46) rfl rfl hM2.out (by unfold maxLen; omega) 3 (by decide) _ rfl rfl rfl ?_)
    intro v3 hm3' hd3
    have hM3 := hid hm3'
    have hD3 := hid (hD2.out.trans hd3)
    clear hm3' hd3 hM2 hD2
    go_wp2_with (refine wpList_fn_insT undMapJ rfl (.tmp 29) (.const (.int .i64 4)) (.func 47) rfl rfl hM3.out (by unfold maxLen; omega) 4 (by decide) _ rfl rfl rfl ?_)
    intro v4 hm4' hd4
    have hM4 := hid hm4'
    have hD4 := hid (hD3.out.trans hd4)
    clear hm4' hd4 hM3 hD3
    go_wp2_with (refine wpList_fn_insT undMapJ rfl (.tmp 29) (.const (.int .i64 5)) (.func 48) rfl rfl hM4.out (by unfold maxLen; omega) 5 (by decide) _ rfl rfl rfl ?_)
    intro v5 hm5' hd5
    have hM5 := hid hm5'
    have hD5 := hid (hD4.out.trans hd5)
    clear hm5' hd5 hM4 hD4
    have hC5 := hid (Chg.then hC3b.out hD5.out (fun j hj e => absurd (show j = w3.heap.size from e) (by have := hC3.out.size; omega)))
    have hmb5 := hid (show w3.heap.size < v5.heap.size from by have := hD5.out.size; rw [World.size_alloc] at this; omega)
    clear hD5
    go_wp2_with fail
    refine (hCl.out _ hC5.out).mono ?_
    rintro e w6 ⟨FA', fc', rfl, hOc, hc6⟩
    have hC6 := hid (hC5.out.trans hc6)
    have hM6 := hid (hM5.out.chg hc6 id)
    have hmb6 := hid (Nat.lt_of_lt_of_le hmb5.out hc6.size)
    have hmi := hid (Nat.le_trans hC3.out.size (Nat.le_refl w3.heap.size))
    have hFo := hid (own_of hOc)
    have hJ0 := hid (show JS N qs w6.heap.size FA' fc' w6.heap.size none 0 m [] G (w6.alloc (.cells #[.slice FA' m fc', .slice none 0 0, .int .i64 N] 74)) from
     ⟨Blk.new w6 _ _, World.ownsRow_nil _ _ _ _, by
      have h1 := (ElsAt.of_own (d := rp0) hOc).mono (G := fun k => k ≠ w6.heap.size ∧ ¬ Of none k) (fun k hk _ => ⟨by omega, fun ⟨a, e, _⟩ => by cases e⟩)
      rw [hmqh.out]
      exact h1.chg ((Chg.refl Nothing w6).alloc _) (fun _ _ _ h => h), by simp,
      fun q hq => ElsAt.chg (hRR.out.els q hq) (hC6.out.alloc _) (fun _ _ _ h => h), fun k hk => ⟨by rw [World.size_alloc]; have := hGG.out k hk; have := hC6.out.size; omega, by have := hGG.out k hk; have := hC6.out.size; omega, fun ⟨a, e, _⟩ => by cases e⟩, fun ⟨a, e, _⟩ => by cases e⟩)
    have hs6 := hid hC6.out.size
    clear hOc hc6 hM5 hC5 hmb5
    go_wp2_with fail
    go_loopw [11] (fun iv wr => JnInv N L qs n w6.heap.size FA' fc' w6 iv wr) (fun iv _ => (intOf iv + 1).toNat)
    case atStart => exact ⟨n, (n : Int) - 1, none, 0, m, [], G, Nat.le_refl _, rfl, rfl, hid (by rw [List.drop_of_length_le (by rw [hlL.out]; exact Nat.le_refl _), List.length_map, hmqh.out]; rfl), hJ0, (Chg.refl Nothing w6).alloc _⟩
    case round =>
     obtain ⟨k, i, PA, pc, mm, st, G1, hk, hi, rfl, hrn, hJS, hchg⟩ := hrel
     have hCr := hid hchg
     have hHr := hid (hHH.out wr (hC6.out.trans hchg))
     clear hchg
     rcases Nat.eq_zero_or_pos k with hk0 | hk0
     ·subst hk0
      obtain rfl : i = -1 := by omega
      rw [List.drop_zero, hrunh.out] at hrn
      obtain ⟨r, rfl, hrV⟩ : ∃ r, st = [r] ∧ r.xs = V := by
       have h1 := hrn.out
       injection h1 with h1
       injection h1 with h1 h2
       rcases st with _ | ⟨r, _ | ⟨r2, st⟩⟩
       ·cases h2
       ·simp at h2; exact ⟨r, rfl, h2.symm⟩
       ·simp at h2
      have hPp := hid (pop_any w6.heap.size _ _ (rpV r) PA 0 pc [] w6.heap.size wr hJS.out.blk hJS.out.own hJS.out.jne)
      have hVl : V.length ≤ 2000000000000 := by
       have h1 := hgood.out L _ hrunh.out
       have h2 := mem_sumR (l := V) (fs := [V]) (by simp)
       have h3 := h1.1.sum
       have h4 := hsumh.out
       rw [hlL.out] at h3
       simp only [] at h3
       omega
      have hrr := hid (fun w' (hc : Chg (One w6.heap.size) wr w') => (show IntsAt G1 w' r.A r.l r.c V from hrV ▸ ElsAt.chg (hJS.out.rin r (by simp)) hc (fun k hk hg e => (hJS.out.gok k hg).2.1 e)))
      have hrl : r.l = V.length := by rw [← hrV]; exact (hJS.out.rin r (by simp)).2.2.2.1.symm
      unfold rpV at hPp
      rw [hrl] at hPp hrr
      have hIc := hid (fun w' (hc : Chg (One w6.heap.size) wr w') => intClone_any G1 r.A V.length r.c V w' (hrr.out w' hc) hVl)
      replace hrV := hid hrV
      clear hi hk hrr hrl hVl
      go_wp2_with fail
      refine hPp.out.mono ?_
      rintro e w8 ⟨rfl, -, -, hc8⟩
      have hC8 := hid (Chg.then (hC6.out.trans hCr.out) hc8 (fun j hj e => absurd (show j = w6.heap.size from e) (by have := hs6.out; omega)))
      have hI8 := hid (hIc.out w8 hc8)
      clear hc8
      go_wp2_with fail
      refine hI8.out.mono ?_
      rintro e w9 ⟨A9, c9, rfl, hO9, hc9⟩
      have hC9 := hid (hC8.out.trans hc9)
      have hO9h := hid (own_base_mono hO9 hC8.out.size)
      clear hc9 hO9
      go_wp2
      go_ret2
      exact ⟨A9, c9, rfl, hO9h.out, hC9.out⟩
     ·obtain ⟨k', rfl⟩ : ∃ k', k = k' + 1 := ⟨k - 1, by omega⟩
      obtain rfl : i = (k' : Int) := by omega
      have hkn : k' < n := hk
      obtain ⟨g, o, p, rfl, -, hgl, hp, hpm, -, c0, c1, c2, c3⟩ := hHr.out.four hkn
      obtain ⟨s1, s2, q1, q2, q3⟩ := run_prev hrunh.out (k := k') (by rw [hlL.out]; exact hkn) np0.x
      have hs1 : s1 = (mm, st.map RP.xs) := by
       have := hrn.out
       rw [q1] at this
       injection this
      subst hs1
      have hpx : L.getD k' np0.x = p.x := by
       rw [hp, ← hLh.out]
       simp only [List.getD_eq_getElem?_getD, List.getElem?_map]
       cases ps[k']? <;> rfl
      rw [hpx] at q2
      have hgd := hgood.out _ _ q1
      have hfine : ∀ r ∈ st, FineR r.xs ∧ r.xs.length ≤ 1000000000000 := fun r hr => by
       have h1 := List.mem_map_of_mem (f := RP.xs) hr
       have h2 := mem_sumR h1
       have h3 := hgd.1.sum
       have h4 := hsumh.out
       simp only [List.length_drop, hlL.out] at h3
       exact ⟨hgd.1.fine _ h1, by omega⟩
      have hst : st.length ≤ 64 := by
       have := hgd.2
       simp only [List.length_drop, List.length_map, hlL.out] at this
       omega
      have hq3 := hid q3
      have hSH := hid (show StepH N qs w6.heap.size FA' fc' w6.heap.size PA pc mm st G1 wr.drew p s2 from ⟨hJS.out.drew, by have := hgd.1.le; rwa [List.length_map] at this, hfine, hxn.out p hpm, q2⟩)
      have hsl := hid (hgood.out _ _ q3).2
      rw [List.length_drop, hlL.out] at hsl
      have hM9 := hid (fun w' (hc : Chg Nothing w6 w') => hM6.out.chg hc id)
      have hN9 := hid (fun w' (hc : Chg Nothing w6 w') => hHH.out w' (hC6.out.trans hc))
      have hcell := hid (fun (w' : World) (hc : Chg Nothing w6 w') => (show w'.cell? ⟨g, o + k' * 4, none⟩ = some (.int .i64 p.x.kind) ∧ w'.cell? ⟨g, o + k' * 4 + 1, none⟩ = some (.int .i64 p.x.n) ∧ w'.cell? ⟨g, o + k' * 4 + 2, none⟩ = some (.slice p.A p.l p.c) ∧ w'.cell? ⟨g, o + k' * 4 + 3, none⟩ = some (.int .i64 p.x.K) from by
       obtain ⟨g', o', p', eA, -, -, hp', -, -, d0, d1, d2, d3⟩ := (hN9.out w' hc).four hkn
       injection eA with eA; injection eA with e1 e2; subst e1 e2
       rw [← hp] at hp'; subst hp'
       exact ⟨d0, d1, d2, d3⟩))
      have hcur := hid hCr.out.drew
      have hThen := hid (fun (W W' : World) (h1 : Chg Nothing w6 W) (h2 : Chg (One w6.heap.size) W W') => (h1.then h2 (fun i hi e => absurd (show i = w6.heap.size from e) (by omega)) : Chg Nothing w6 W'))
      have hi0 : (0 : Int) ≤ (k' : Int) := by omega
      have hi1 : (k' : Int) < (n : Int) := by omega
      have hw2 : IntKind.i64.wrap ((k' : Int) - 1) = (k' : Int) - 1 := by rw [IntKind.wrap_i64]; omega
      replace hp := hid hp
      have hkd := step_kind q2
      clear hi hk hpx hgd hfine q1 q2 q3 hrn hk0 c0 c1 c2 c3 hHr hN9 hJS
      rcases hkd with hkd | hkd | hkd | hkd | hkd
      ·have hK := hid (kind1_step hSH.out hkd)
       unfold StepAns at hK
       have hlk := hid (fun (w' : World) (hc : Chg Nothing w6 w') => (show (Instr.lookup 71 (.map (some w3.heap.size)) (.int .i64 p.x.kind) false).run Tryz.prog w' = .ok (.func (.func 44) #[] #[]) w' from by
        have := (hM9.out w' hc).lookT undMapJ 1 (by decide) _ rfl
        rw [hkd]
        simpa using this))
       have hS := hid (fun (w' : World) (hc : Chg Nothing w6 w') => (show w'.cell? ⟨g, o + k' * 4, none⟩ = some (.int .i64 p.x.kind) ∧ w'.cell? ⟨g, o + k' * 4 + 1, none⟩ = some (.int .i64 p.x.n) ∧ w'.cell? ⟨g, o + k' * 4 + 2, none⟩ = some (.slice p.A p.l p.c) ∧ w'.cell? ⟨g, o + k' * 4 + 3, none⟩ = some (.int .i64 p.x.K) ∧ (Instr.lookup 71 (.map (some w3.heap.size)) (.int .i64 p.x.kind) false).run Tryz.prog w' = .ok (.func (.func 44) #[] #[]) w' from ⟨(hcell.out w' hc).1, (hcell.out w' hc).2.1, (hcell.out w' hc).2.2.1, (hcell.out w' hc).2.2.2, hlk.out w' hc⟩))
       replace hkd := hid hkd
       clear hlk hcell hM9
       go_wp2_with fail
       go_region_held3 (fun w' => w'.cell? ⟨g, o + k' * 4, none⟩ = some (.int .i64 p.x.kind) ∧ w'.cell? ⟨g, o + k' * 4 + 1, none⟩ = some (.int .i64 p.x.n) ∧ w'.cell? ⟨g, o + k' * 4 + 2, none⟩ = some (.slice p.A p.l p.c) ∧ w'.cell? ⟨g, o + k' * 4 + 3, none⟩ = some (.int .i64 p.x.K) ∧ (Instr.lookup 71 (.map (some w3.heap.size)) (.int .i64 p.x.kind) false).run Tryz.prog w' = .ok (.func (.func 44) #[] #[]) w')
        (exact hS.out _ hcur.out)
        (first
        | (go_at_call 44; with_reducible refine hK.out.mono ?_; rintro e wP ⟨r, m', st', G', rfl, hs', hJP, hrin, hcP⟩; replace hcur := hid (hThen.out _ _ hcur.out hcP); replace hJP := hid hJP; replace hrin := hid hrin; replace hs' := hid hs'; replace hcP := hid hcP))
       all_goals
        have hCu := hid hcur.out
        have hb := hJP.out.blk
        have x1 := hb.cell 1 (v := .slice PA st'.length pc) rfl
        have hjl := hb.lt
        have hst' : st'.length + 1 ≤ 64 := by
         have h1 := hsl.out
         rw [hs'.out] at h1
         simp only [List.length_cons, List.length_map] at h1
         omega
        have hjs6 := hid hCu.out.size
        clear hS hcur hb
        go_wp2_with (at_builtin; refine append_one rfl _ _ 43 rfl w6.heap.size 37 (.slice none 0 0) 24 Tryz.underlying43 infoRR rfl PA pc st'.length _ rfl hJP.out.own (.slice r.A r.l r.c) rfl rfl ?_ ?_ ?_ ?_)
        ·omega
        ·omega
        ·exact hjs6.out
        intro A8 c8 w8 hO8 hc8 hA8
        rw [← List.map_reverse] at hO8
        have hPu := hid (hJP.out.push hrin.out hO8 hc8 hA8)
        have hb8 := hJP.out.blk.chg hc8 hJP.out.jne
        have f8 := hb8.free 1
        have l8 := hb8.lt
        have hC8 := hid (Chg.then hCu.out hc8 (fun j hj e => absurd (own_of hJP.out.own j e).1 (by omega)))
        have hC9 := hid (hThen.out _ _ hC8.out ((Chg.refl (One w6.heap.size) w8).setOne 1 (.slice A8 (st'.length + 1) c8)))
        clear hO8 hc8 hA8 x1 hjl
        have y1 := hb8.cell 1 (v := .slice PA st'.length pc) rfl
        clear hb8
        go_wp2
        go_roundw
        case rel => exact ⟨k', (k' : Int) - 1, A8, c8, m', r :: st', G', by omega, rfl, by go_num, hid (by rw [hq3.out, hs'.out]; rfl), hPu, hC9.out⟩
        case measure => simp [intOf]
      ·have hK := hid (kind2_step hSH.out hkd)
       unfold StepAns at hK
       have hlk := hid (fun (w' : World) (hc : Chg Nothing w6 w') => (show (Instr.lookup 71 (.map (some w3.heap.size)) (.int .i64 p.x.kind) false).run Tryz.prog w' = .ok (.func (.func 45) #[] #[]) w' from by
        have := (hM9.out w' hc).lookT undMapJ 2 (by decide) _ rfl
        rw [hkd]
        simpa using this))
       have hS := hid (fun (w' : World) (hc : Chg Nothing w6 w') => (show w'.cell? ⟨g, o + k' * 4, none⟩ = some (.int .i64 p.x.kind) ∧ w'.cell? ⟨g, o + k' * 4 + 1, none⟩ = some (.int .i64 p.x.n) ∧ w'.cell? ⟨g, o + k' * 4 + 2, none⟩ = some (.slice p.A p.l p.c) ∧ w'.cell? ⟨g, o + k' * 4 + 3, none⟩ = some (.int .i64 p.x.K) ∧ (Instr.lookup 71 (.map (some w3.heap.size)) (.int .i64 p.x.kind) false).run Tryz.prog w' = .ok (.func (.func 45) #[] #[]) w' from ⟨(hcell.out w' hc).1, (hcell.out w' hc).2.1, (hcell.out w' hc).2.2.1, (hcell.out w' hc).2.2.2, hlk.out w' hc⟩))
       replace hkd := hid hkd
       clear hlk hcell hM9
       go_wp2_with fail
       go_region_held3 (fun w' => w'.cell? ⟨g, o + k' * 4, none⟩ = some (.int .i64 p.x.kind) ∧ w'.cell? ⟨g, o + k' * 4 + 1, none⟩ = some (.int .i64 p.x.n) ∧ w'.cell? ⟨g, o + k' * 4 + 2, none⟩ = some (.slice p.A p.l p.c) ∧ w'.cell? ⟨g, o + k' * 4 + 3, none⟩ = some (.int .i64 p.x.K) ∧ (Instr.lookup 71 (.map (some w3.heap.size)) (.int .i64 p.x.kind) false).run Tryz.prog w' = .ok (.func (.func 45) #[] #[]) w')
        (exact hS.out _ hcur.out)
        (first
        | (go_at_call 45; with_reducible refine hK.out.mono ?_; rintro e wP ⟨r, m', st', G', rfl, hs', hJP, hrin, hcP⟩; replace hcur := hid (hThen.out _ _ hcur.out hcP); replace hJP := hid hJP; replace hrin := hid hrin; replace hs' := hid hs'; replace hcP := hid hcP))
       all_goals
        have hCu := hid hcur.out
        have hb := hJP.out.blk
        have x1 := hb.cell 1 (v := .slice PA st'.length pc) rfl
        have hjl := hb.lt
        have hst' : st'.length + 1 ≤ 64 := by
         have h1 := hsl.out
         rw [hs'.out] at h1
         simp only [List.length_cons, List.length_map] at h1
         omega
        have hjs6 := hid hCu.out.size
        clear hS hcur hb
        go_wp2_with (at_builtin; refine append_one rfl _ _ 43 rfl w6.heap.size 37 (.slice none 0 0) 24 Tryz.underlying43 infoRR rfl PA pc st'.length _ rfl hJP.out.own (.slice r.A r.l r.c) rfl rfl ?_ ?_ ?_ ?_)
        ·omega
        ·omega
        ·exact hjs6.out
        intro A8 c8 w8 hO8 hc8 hA8
        rw [← List.map_reverse] at hO8
        have hPu := hid (hJP.out.push hrin.out hO8 hc8 hA8)
        have hb8 := hJP.out.blk.chg hc8 hJP.out.jne
        have f8 := hb8.free 1
        have l8 := hb8.lt
        have hC8 := hid (Chg.then hCu.out hc8 (fun j hj e => absurd (own_of hJP.out.own j e).1 (by omega)))
        have hC9 := hid (hThen.out _ _ hC8.out ((Chg.refl (One w6.heap.size) w8).setOne 1 (.slice A8 (st'.length + 1) c8)))
        clear hO8 hc8 hA8 x1 hjl
        have y1 := hb8.cell 1 (v := .slice PA st'.length pc) rfl
        clear hb8
        go_wp2
        go_roundw
        case rel => exact ⟨k', (k' : Int) - 1, A8, c8, m', r :: st', G', by omega, rfl, by go_num, hid (by rw [hq3.out, hs'.out]; rfl), hPu, hC9.out⟩
        case measure => simp [intOf]
      ·have hK := hid (kind3_step hSH.out hkd)
       unfold StepAns at hK
       have hlk := hid (fun (w' : World) (hc : Chg Nothing w6 w') => (show (Instr.lookup 71 (.map (some w3.heap.size)) (.int .i64 p.x.kind) false).run Tryz.prog w' = .ok (.func (.func 46) #[] #[]) w' from by
        have := (hM9.out w' hc).lookT undMapJ 3 (by decide) _ rfl
        rw [hkd]
        simpa using this))
       have hS := hid (fun (w' : World) (hc : Chg Nothing w6 w') => (show w'.cell? ⟨g, o + k' * 4, none⟩ = some (.int .i64 p.x.kind) ∧ w'.cell? ⟨g, o + k' * 4 + 1, none⟩ = some (.int .i64 p.x.n) ∧ w'.cell? ⟨g, o + k' * 4 + 2, none⟩ = some (.slice p.A p.l p.c) ∧ w'.cell? ⟨g, o + k' * 4 + 3, none⟩ = some (.int .i64 p.x.K) ∧ (Instr.lookup 71 (.map (some w3.heap.size)) (.int .i64 p.x.kind) false).run Tryz.prog w' = .ok (.func (.func 46) #[] #[]) w' from ⟨(hcell.out w' hc).1, (hcell.out w' hc).2.1, (hcell.out w' hc).2.2.1, (hcell.out w' hc).2.2.2, hlk.out w' hc⟩))
       replace hkd := hid hkd
       clear hlk hcell hM9
       go_wp2_with fail
       go_region_held3 (fun w' => w'.cell? ⟨g, o + k' * 4, none⟩ = some (.int .i64 p.x.kind) ∧ w'.cell? ⟨g, o + k' * 4 + 1, none⟩ = some (.int .i64 p.x.n) ∧ w'.cell? ⟨g, o + k' * 4 + 2, none⟩ = some (.slice p.A p.l p.c) ∧ w'.cell? ⟨g, o + k' * 4 + 3, none⟩ = some (.int .i64 p.x.K) ∧ (Instr.lookup 71 (.map (some w3.heap.size)) (.int .i64 p.x.kind) false).run Tryz.prog w' = .ok (.func (.func 46) #[] #[]) w')
        (exact hS.out _ hcur.out)
        (first
        | (go_at_call 46; with_reducible refine hK.out.mono ?_; rintro e wP ⟨r, m', st', G', rfl, hs', hJP, hrin, hcP⟩; replace hcur := hid (hThen.out _ _ hcur.out hcP); replace hJP := hid hJP; replace hrin := hid hrin; replace hs' := hid hs'; replace hcP := hid hcP))
       all_goals
        have hCu := hid hcur.out
        have hb := hJP.out.blk
        have x1 := hb.cell 1 (v := .slice PA st'.length pc) rfl
        have hjl := hb.lt
        have hst' : st'.length + 1 ≤ 64 := by
         have h1 := hsl.out
         rw [hs'.out] at h1
         simp only [List.length_cons, List.length_map] at h1
         omega
        have hjs6 := hid hCu.out.size
        clear hS hcur hb
        go_wp2_with (at_builtin; refine append_one rfl _ _ 43 rfl w6.heap.size 37 (.slice none 0 0) 24 Tryz.underlying43 infoRR rfl PA pc st'.length _ rfl hJP.out.own (.slice r.A r.l r.c) rfl rfl ?_ ?_ ?_ ?_)
        ·omega
        ·omega
        ·exact hjs6.out
        intro A8 c8 w8 hO8 hc8 hA8
        rw [← List.map_reverse] at hO8
        have hPu := hid (hJP.out.push hrin.out hO8 hc8 hA8)
        have hb8 := hJP.out.blk.chg hc8 hJP.out.jne
        have f8 := hb8.free 1
        have l8 := hb8.lt
        have hC8 := hid (Chg.then hCu.out hc8 (fun j hj e => absurd (own_of hJP.out.own j e).1 (by omega)))
        have hC9 := hid (hThen.out _ _ hC8.out ((Chg.refl (One w6.heap.size) w8).setOne 1 (.slice A8 (st'.length + 1) c8)))
        clear hO8 hc8 hA8 x1 hjl
        have y1 := hb8.cell 1 (v := .slice PA st'.length pc) rfl
        clear hb8
        go_wp2
        go_roundw
        case rel => exact ⟨k', (k' : Int) - 1, A8, c8, m', r :: st', G', by omega, rfl, by go_num, hid (by rw [hq3.out, hs'.out]; rfl), hPu, hC9.out⟩
        case measure => simp [intOf]
      ·have hK := hid (kind4_step hSH.out hkd)
       unfold StepAns at hK
       have hlk := hid (fun (w' : World) (hc : Chg Nothing w6 w') => (show (Instr.lookup 71 (.map (some w3.heap.size)) (.int .i64 p.x.kind) false).run Tryz.prog w' = .ok (.func (.func 47) #[] #[]) w' from by
        have := (hM9.out w' hc).lookT undMapJ 4 (by decide) _ rfl
        rw [hkd]
        simpa using this))
       have hS := hid (fun (w' : World) (hc : Chg Nothing w6 w') => (show w'.cell? ⟨g, o + k' * 4, none⟩ = some (.int .i64 p.x.kind) ∧ w'.cell? ⟨g, o + k' * 4 + 1, none⟩ = some (.int .i64 p.x.n) ∧ w'.cell? ⟨g, o + k' * 4 + 2, none⟩ = some (.slice p.A p.l p.c) ∧ w'.cell? ⟨g, o + k' * 4 + 3, none⟩ = some (.int .i64 p.x.K) ∧ (Instr.lookup 71 (.map (some w3.heap.size)) (.int .i64 p.x.kind) false).run Tryz.prog w' = .ok (.func (.func 47) #[] #[]) w' from ⟨(hcell.out w' hc).1, (hcell.out w' hc).2.1, (hcell.out w' hc).2.2.1, (hcell.out w' hc).2.2.2, hlk.out w' hc⟩))
       replace hkd := hid hkd
       clear hlk hcell hM9
       go_wp2_with fail
       go_region_held3 (fun w' => w'.cell? ⟨g, o + k' * 4, none⟩ = some (.int .i64 p.x.kind) ∧ w'.cell? ⟨g, o + k' * 4 + 1, none⟩ = some (.int .i64 p.x.n) ∧ w'.cell? ⟨g, o + k' * 4 + 2, none⟩ = some (.slice p.A p.l p.c) ∧ w'.cell? ⟨g, o + k' * 4 + 3, none⟩ = some (.int .i64 p.x.K) ∧ (Instr.lookup 71 (.map (some w3.heap.size)) (.int .i64 p.x.kind) false).run Tryz.prog w' = .ok (.func (.func 47) #[] #[]) w')
        (exact hS.out _ hcur.out)
        (first
        | (go_at_call 47; with_reducible refine hK.out.mono ?_; rintro e wP ⟨r, m', st', G', rfl, hs', hJP, hrin, hcP⟩; replace hcur := hid (hThen.out _ _ hcur.out hcP); replace hJP := hid hJP; replace hrin := hid hrin; replace hs' := hid hs'; replace hcP := hid hcP))
       all_goals
        have hCu := hid hcur.out
        have hb := hJP.out.blk
        have x1 := hb.cell 1 (v := .slice PA st'.length pc) rfl
        have hjl := hb.lt
        have hst' : st'.length + 1 ≤ 64 := by
         have h1 := hsl.out
         rw [hs'.out] at h1
         simp only [List.length_cons, List.length_map] at h1
         omega
        have hjs6 := hid hCu.out.size
        clear hS hcur hb
        go_wp2_with (at_builtin; refine append_one rfl _ _ 43 rfl w6.heap.size 37 (.slice none 0 0) 24 Tryz.underlying43 infoRR rfl PA pc st'.length _ rfl hJP.out.own (.slice r.A r.l r.c) rfl rfl ?_ ?_ ?_ ?_)
        ·omega
        ·omega
        ·exact hjs6.out
        intro A8 c8 w8 hO8 hc8 hA8
        rw [← List.map_reverse] at hO8
        have hPu := hid (hJP.out.push hrin.out hO8 hc8 hA8)
        have hb8 := hJP.out.blk.chg hc8 hJP.out.jne
        have f8 := hb8.free 1
        have l8 := hb8.lt
        have hC8 := hid (Chg.then hCu.out hc8 (fun j hj e => absurd (own_of hJP.out.own j e).1 (by omega)))
        have hC9 := hid (hThen.out _ _ hC8.out ((Chg.refl (One w6.heap.size) w8).setOne 1 (.slice A8 (st'.length + 1) c8)))
        clear hO8 hc8 hA8 x1 hjl
        have y1 := hb8.cell 1 (v := .slice PA st'.length pc) rfl
        clear hb8
        go_wp2
        go_roundw
        case rel => exact ⟨k', (k' : Int) - 1, A8, c8, m', r :: st', G', by omega, rfl, by go_num, hid (by rw [hq3.out, hs'.out]; rfl), hPu, hC9.out⟩
        case measure => simp [intOf]
      ·have hK := hid (kind5_step hSH.out hkd)
       unfold StepAns at hK
       have hlk := hid (fun (w' : World) (hc : Chg Nothing w6 w') => (show (Instr.lookup 71 (.map (some w3.heap.size)) (.int .i64 p.x.kind) false).run Tryz.prog w' = .ok (.func (.func 48) #[] #[]) w' from by
        have := (hM9.out w' hc).lookT undMapJ 5 (by decide) _ rfl
        rw [hkd]
        simpa using this))
       have hS := hid (fun (w' : World) (hc : Chg Nothing w6 w') => (show w'.cell? ⟨g, o + k' * 4, none⟩ = some (.int .i64 p.x.kind) ∧ w'.cell? ⟨g, o + k' * 4 + 1, none⟩ = some (.int .i64 p.x.n) ∧ w'.cell? ⟨g, o + k' * 4 + 2, none⟩ = some (.slice p.A p.l p.c) ∧ w'.cell? ⟨g, o + k' * 4 + 3, none⟩ = some (.int .i64 p.x.K) ∧ (Instr.lookup 71 (.map (some w3.heap.size)) (.int .i64 p.x.kind) false).run Tryz.prog w' = .ok (.func (.func 48) #[] #[]) w' from ⟨(hcell.out w' hc).1, (hcell.out w' hc).2.1, (hcell.out w' hc).2.2.1, (hcell.out w' hc).2.2.2, hlk.out w' hc⟩))
       replace hkd := hid hkd
       clear hlk hcell hM9
       go_wp2_with fail
       go_region_held3 (fun w' => w'.cell? ⟨g, o + k' * 4, none⟩ = some (.int .i64 p.x.kind) ∧ w'.cell? ⟨g, o + k' * 4 + 1, none⟩ = some (.int .i64 p.x.n) ∧ w'.cell? ⟨g, o + k' * 4 + 2, none⟩ = some (.slice p.A p.l p.c) ∧ w'.cell? ⟨g, o + k' * 4 + 3, none⟩ = some (.int .i64 p.x.K) ∧ (Instr.lookup 71 (.map (some w3.heap.size)) (.int .i64 p.x.kind) false).run Tryz.prog w' = .ok (.func (.func 48) #[] #[]) w')
        (exact hS.out _ hcur.out)
        (first
        | (go_at_call 48; with_reducible refine hK.out.mono ?_; rintro e wP ⟨r, m', st', G', rfl, hs', hJP, hrin, hcP⟩; replace hcur := hid (hThen.out _ _ hcur.out hcP); replace hJP := hid hJP; replace hrin := hid hrin; replace hs' := hid hs'; replace hcP := hid hcP))
       all_goals
        have hCu := hid hcur.out
        have hb := hJP.out.blk
        have x1 := hb.cell 1 (v := .slice PA st'.length pc) rfl
        have hjl := hb.lt
        have hst' : st'.length + 1 ≤ 64 := by
         have h1 := hsl.out
         rw [hs'.out] at h1
         simp only [List.length_cons, List.length_map] at h1
         omega
        have hjs6 := hid hCu.out.size
        clear hS hcur hb
        go_wp2_with (at_builtin; refine append_one rfl _ _ 43 rfl w6.heap.size 37 (.slice none 0 0) 24 Tryz.underlying43 infoRR rfl PA pc st'.length _ rfl hJP.out.own (.slice r.A r.l r.c) rfl rfl ?_ ?_ ?_ ?_)
        ·omega
        ·omega
        ·exact hjs6.out
        intro A8 c8 w8 hO8 hc8 hA8
        rw [← List.map_reverse] at hO8
        have hPu := hid (hJP.out.push hrin.out hO8 hc8 hA8)
        have hb8 := hJP.out.blk.chg hc8 hJP.out.jne
        have f8 := hb8.free 1
        have l8 := hb8.lt
        have hC8 := hid (Chg.then hCu.out hc8 (fun j hj e => absurd (own_of hJP.out.own j e).1 (by omega)))
        have hC9 := hid (hThen.out _ _ hC8.out ((Chg.refl (One w6.heap.size) w8).setOne 1 (.slice A8 (st'.length + 1) c8)))
        clear hO8 hc8 hA8 x1 hjl
        have y1 := hb8.cell 1 (v := .slice PA st'.length pc) rfl
        clear hb8
        go_wp2
        go_roundw
        case rel => exact ⟨k', (k' : Int) - 1, A8, c8, m', r :: st', G', by omega, rfl, by go_num, hid (by rw [hq3.out, hs'.out]; rfl), hPu, hC9.out⟩
        case measure => simp [intOf]
  ·have hB : joinB (ps.map NP.x) (qs.map RP.xs) = false := by
    unfold joinB
    rw [← hcnt, List.length_map, hmq, decide_eq_false hlen]
    simp
   have hBh := hid hB
   have hnb : ((m : Int) != (((leavesP ps).length : Nat) : Int)) = true := by rw [bne_iff_ne]; omega
   have hlh := hid hlen
   clear hz hsum hr hB hcnt hlenL hlen
   go_enter Tryz.func20, Tryz.ntmps20
   go_wp2_with fail
   refine hRt.out.mono ?_
   rintro e w1 ⟨rfl, hc1⟩
   have hC1 := hid hc1
   clear hc1
   go_wp2_with fail
   refine (hLv.out _ hC1.out).mono ?_
   rintro e w2 ⟨B, j, d, rfl, hLR, -, hc2⟩
   have hC2 := hid (hC1.out.trans hc2)
   rw [hLR.len] at hnb
   clear hc2 hLR
   go_wp2
   go_ret2
   exact JoinAns.no hBh.out hC2.out
 ·have hr' : rightN (ps.map NP.x) = false := by simpa using hr
  have hB : joinB (ps.map NP.x) (qs.map RP.xs) = false := by unfold joinB; rw [hr']; rfl
  rw [hr'] at hRt
  have hBh := hid hB
  clear hz hsum hr hr' hB hcnt hlenL
  go_enter Tryz.func20, Tryz.ntmps20
  go_wp2_with fail
  refine hRt.out.mono ?_
  rintro e w1 ⟨rfl, hc1⟩
  have hC1 := hid hc1
  clear hc1
  go_wp2
  go_ret2
  exact JoinAns.no hBh.out hC1.out
end Go.Proofs.YtoelilejohfglaaGreat
namespace Go.Proofs.YtoelilejohfglaaGreat
open Go.RowKit
set_option linter.unusedVariables false
set_option linter.unusedSimpArgs false
attribute [local go_sem ↓] Go.wp_at_zero Go.wp_at_succ
theorem sumR_take_le (fs : List (List Int)) (k : Nat) : sumR (fs.take k) ≤ sumR fs := by
 have : sumR fs = sumR (fs.take k) + sumR (fs.drop k) := by rw [← sumR_app, List.take_append_drop]
 omega
theorem drop_root {ps : List NP} {a : Nat} {x : Nd} {r : List Nd} (h : (ps.map NP.x).drop a = x :: r) : a < ps.length ∧ (ps.getD a np0).x = x ∧ (ps.map NP.x).drop (a + 1) = r := by
 have h1 := congrArg List.length h
 simp only [List.length_drop, List.length_map, List.length_cons] at h1
 have ha : a < ps.length := by omega
 rw [drop_nd ha] at h
 injection h with h2 h3
 exact ⟨ha, h2, h3⟩
def Rd18 (w : World) (A : Option Addr) (c : Nat) (v : List Int) : Prop := IntsAt (fun j => j < w.heap.size) w A v.length c v
theorem Rd18.of {F : Nat → Prop} {w : World} {A : Option Addr} {n c : Nat} {v : List Int} (h : IntsAt F w A n c v) : Rd18 w A c v := by
 have := h.2.2.2.1
 subst this
 exact ElsAt.mono h (fun k hk _ => hk)
theorem Rd18.chg {w w' : World} {A : Option Addr} {c : Nat} {v : List Int} (h : Rd18 w A c v) (hc : Chg Nothing w w') : Rd18 w' A c v := Rd18.of (ElsAt.chg h hc (fun _ _ _ h => h))
def TreeAns (v : List Int) (a k : Nat) (w : World) (e : Ending) (w' : World) : Prop := ∃ A' c', e = .returned (.tuple #[.slice A' v.length c', .int .i64 a, .int .i64 k]) ∧ Rd18 w' A' c' v ∧ Chg Nothing w w'
theorem refTree_any (F F2 G : Nat → Prop) (A : Option Addr) (n c : Nat) (ps : List NP) (FA : Option Addr) (m fc : Nat) (qs : List RP) (N : Int) (hn : n ≤ 1000000) (hm : m ≤ 1000000) (hf : ∀ q ∈ qs, FineR q.xs) (hxn : ∀ p ∈ ps, p.x.n ≤ 9223372036854775807) (hsum : sumR (qs.map RP.xs) ≤ 100000000000) (t : GT) : t.ok → ∀ (a k : Nat) (r : List Nd) (w : World), NRow F w A n c ps → RRow F2 G w FA m fc qs → (ps.map NP.x).drop a = t.flat ++ r → k + t.cnt ≤ m →
  Calls Tryz.prog 53 #[.slice A n c, .int .i64 a, .slice FA m fc, .int .i64 k, .int .i64 N] w (TreeAns (gtV N t ((qs.map RP.xs).drop k)).1 (a + t.flat.length) (k + t.cnt) w) := by
 have hgood := hid (fun t => gtV_good N (qs.map RP.xs) (fun r hr => by obtain ⟨q, hq, rfl⟩ := List.mem_map.1 hr; exact hf q hq) t)
 have hsumh := hid hsum
 have hxh := hid hxn
 clear hsum hf hxn
 induction t with
 | leaf x =>
  intro ht a k r w H R hd hk
  have hkm : k < m := hk
  obtain ⟨ha, hx, -⟩ := drop_root hd
  have hlen := H.len
  rw [hlen] at ha
  obtain ⟨g, o, p, rfl, -, hgl, hp, -, -, c0, c1, c2, c3⟩ := H.four ha
  rw [← hp] at hx
  have hkd : p.x.kind = 1 := by rw [hx]; exact ht
  obtain ⟨g2, o2, rfl, -, hgl2, d0⟩ := R.row.at_ hkm
  have hmq : qs.length = m := R.row.2.2.2.1
  have hv : (gtV N (.leaf x) ((qs.map RP.xs).drop k)).1 = (qs.getD k rp0).xs := by simp only [gtV]; rw [List.headD_eq_head?_getD, List.head?_drop, ← map_getD_xs]; rfl
  have hqm : qs.getD k rp0 ∈ qs := by simp [show k < qs.length by omega]
  have hRd := R.els _ hqm
  rw [hv]
  generalize qs.getD k rp0 = q at d0 hRd ⊢
  have hql : q.l = q.xs.length := hRd.2.2.2.1.symm
  unfold rpV at d0
  rw [hql] at d0
  have hR2 := hid (Rd18.of hRd)
  have b1 : (p.x.kind == 1) = true := beq_iff_eq.2 hkd
  have hw1 : IntKind.i64.wrap ((a : Int) + 1) = (a : Int) + 1 := by rw [IntKind.wrap_i64]; omega
  have hw2 : IntKind.i64.wrap ((k : Int) + 1) = (k : Int) + 1 := by rw [IntKind.wrap_i64]; omega
  have ha0 : (0 : Int) ≤ (a : Int) := by omega
  have ha1 : (a : Int) < (n : Int) := by omega
  have hk0 : (0 : Int) ≤ (k : Int) := by omega
  have hk1 : (k : Int) < (m : Int) := by omega
  have hle := H.row.le
  have hmx := H.row.max
  have hle2 := R.row.2.1
  have hmx2 := R.row.2.2.1
  have hC := hid ((Chg.refl Nothing w).alloc (.cells #[.int .i64 p.x.kind, .int .i64 p.x.n, .slice p.A p.l p.c, .int .i64 p.x.K] 55))
  clear H R hd hx hp hkd hRd hqm hql hmq hv hlen ht
  simp only [GT.flat, GT.cnt, List.length_singleton]
  go_enter Tryz.func53, Tryz.ntmps53
  go_wp2
  go_ret3
  exact ⟨q.A, q.c, by simp [Int.natCast_add], hR2.out.chg hC.out, hC.out⟩
 | one x b ih =>
  intro ht a k r w H R hd hk
  obtain ⟨hkd, hb⟩ := ht
  obtain ⟨ha, hx, hd1⟩ := drop_root hd
  replace hd1 : (ps.map NP.x).drop (a + 1) = b.flat ++ r := hd1
  have hlen := H.len
  rw [hlen] at ha
  have hHH := hid (fun (w' : World) (hc : Chg Nothing w w') => H.calm hc)
  have hRR := hid (fun (w' : World) (hc : Chg Nothing w w') => R.calm hc)
  obtain ⟨g, o, p, rfl, -, hgl, hp, hpm, -, c0, c1, c2, c3⟩ := H.four ha
  rw [← hp] at hx
  replace hp := hid hp
  have hle := H.row.le
  have hmx := H.row.max
  have hmq : qs.length = m := R.row.2.2.2.1
  have hlenD := congrArg List.length hd1
  have b1 : (p.x.kind == 1) = false := beq_eq_false_iff_ne.2 (by rw [hx]; omega)
  have hw1 : IntKind.i64.wrap ((a : Int) + 1) = (a : Int) + 1 := by rw [IntKind.wrap_i64]; omega
  have ha0 : (0 : Int) ≤ (a : Int) := by omega
  have ha1 : (a : Int) < (n : Int) := by omega
  have hX := hid (Blk.new w #[.int .i64 p.x.kind, .int .i64 p.x.n, .slice p.A p.l p.c, .int .i64 p.x.K] 55)
  have hC := hid ((Chg.refl Nothing w).alloc (.cells #[.int .i64 p.x.kind, .int .i64 p.x.n, .slice p.A p.l p.c, .int .i64 p.x.K] 55))
  have hpn := hxh.out p hpm
  clear hpm
  simp only [GT.cnt] at hk
  have hI := ih hb (a + 1) k r (w.alloc (.cells #[.int .i64 p.x.kind, .int .i64 p.x.n, .slice p.A p.l p.c, .int .i64 p.x.K] 55)) (hHH.out _ hC.out) (hRR.out _ hC.out) hd1 hk
  have hg := hgood.out b k (by rw [List.length_map, hmq]; exact hk)
  have ht := sumR_take_le (qs.map RP.xs) (k + b.cnt)
  have hsm := hsumh.out
  simp only [List.length_drop, List.length_map, List.length_append, hlen] at hlenD
  have hI1 := hid hI
  unfold TreeAns at hI1
  simp only [GT.flat, GT.cnt, gtV, List.length_cons]
  rw [show a + (b.flat.length + 1) = a + 1 + b.flat.length from by omega]
  generalize (gtV N b ((qs.map RP.xs).drop k)).1 = v at hI1 hg ⊢
  have hvl : v.length ≤ 1000000000000 := by omega
  have hnx : ((a + 1 : Nat) : Int) = (a : Int) + 1 := by omega
  rw [hnx] at hI1
  generalize a + 1 + b.flat.length = a2 at hI1 ⊢
  generalize k + b.cnt = k2 at hI1 ⊢
  replace hnx := hid hnx
  obtain ⟨hgf, -⟩ := hg
  have hgz := hid hgf.2
  have hgr := hgf.1
  clear ht hsm hlenD hI H R hd hd1 hgf ih
  rcases hkd with h4 | h5
  ·have b4 : (p.x.kind == 4) = true := beq_iff_eq.2 (by rw [hx]; exact h4)
   rw [if_pos h4]
   replace h4 := hid h4
   replace hx := hid hx
   go_enter Tryz.func53, Tryz.ntmps53
   go_wp2_with fail
   refine hI1.out.mono ?_
   rintro e w2 ⟨A2, c2', rfl, hR2, hc2⟩
   have hX2 := hid (hX.out.chg hc2 id)
   have hC2 := hid (hC.out.trans hc2)
   have y0 := hX2.out.cell 0 (v := .int .i64 p.x.kind) rfl
   have y1 := hX2.out.cell 1 (v := .int .i64 p.x.n) rfl
   have hR2h := hid hR2
   clear hc2 hR2 c0 c1 c2 c3
   have hNt := hid (refNot15 _ A2 v.length c2' v N w2 hR2h.out (by omega))
   go_wp2_with fail
   refine hNt.out.mono ?_
   rintro e w3 ⟨⟨A3, c3', rfl, hO3⟩, hc3⟩
   have hC3 := hid (hC2.out.trans hc3)
   have hR3 := hid (Rd18.of (ElsAt.of_own (d := (0 : Int)) hO3))
   clear hc3 hO3 y0 y1
   go_wp2
   go_ret3
   exact ⟨A3, c3', rfl, hR3.out, hC3.out⟩
  ·have b4 : (p.x.kind == 4) = false := beq_eq_false_iff_ne.2 (by rw [hx, h5]; decide)
   have b5 : (p.x.kind == 5) = true := beq_iff_eq.2 (by rw [hx]; exact h5)
   rw [if_neg (by rw [h5]; decide), ← shiftR_eq, ← hx]
   replace h5 := hid h5
   replace hx := hid hx
   go_enter Tryz.func53, Tryz.ntmps53
   go_wp2_with fail
   refine hI1.out.mono ?_
   rintro e w2 ⟨A2, c2', rfl, hR2, hc2⟩
   have hX2 := hid (hX.out.chg hc2 id)
   have hC2 := hid (hC.out.trans hc2)
   have y0 := hX2.out.cell 0 (v := .int .i64 p.x.kind) rfl
   have y1 := hX2.out.cell 1 (v := .int .i64 p.x.n) rfl
   have hR2h := hid hR2
   clear hc2 hR2 c0 c1 c2 c3
   have hNt := hid (refShift_any _ A2 v.length c2' v p.x.n w2 hR2h.out (by omega) hpn hgz.out)
   go_wp2_with fail
   refine hNt.out.mono ?_
   rintro e w3 ⟨⟨A3, c3', rfl, hO3⟩, hc3⟩
   have hC3 := hid (hC2.out.trans hc3)
   have hR3 := hid (Rd18.of (ElsAt.of_own (d := (0 : Int)) hO3))
   clear hc3 hO3 y0 y1
   go_wp2
   go_ret3
   exact ⟨A3, c3', rfl, hR3.out, hC3.out⟩
 | two x b b' ih ih' =>
  intro ht a k r w H R hd hk
  obtain ⟨hkd, hb, hb'⟩ := ht
  obtain ⟨ha, hx, hd1⟩ := drop_root hd
  replace hd1 : (ps.map NP.x).drop (a + 1) = (b.flat ++ b'.flat) ++ r := hd1
  have hlen := H.len
  rw [hlen] at ha
  have hHH := hid (fun (w' : World) (hc : Chg Nothing w w') => H.calm hc)
  have hRR := hid (fun (w' : World) (hc : Chg Nothing w w') => R.calm hc)
  obtain ⟨g, o, p, rfl, -, hgl, hp, hpm, -, c0, c1, c2, c3⟩ := H.four ha
  rw [← hp] at hx
  replace hp := hid hp
  have hle := H.row.le
  have hmx := H.row.max
  have hmq : qs.length = m := R.row.2.2.2.1
  have hlenD := congrArg List.length hd1
  have b1 : (p.x.kind == 1) = false := beq_eq_false_iff_ne.2 (by rw [hx]; omega)
  have hw1 : IntKind.i64.wrap ((a : Int) + 1) = (a : Int) + 1 := by rw [IntKind.wrap_i64]; omega
  have ha0 : (0 : Int) ≤ (a : Int) := by omega
  have ha1 : (a : Int) < (n : Int) := by omega
  have hX := hid (Blk.new w #[.int .i64 p.x.kind, .int .i64 p.x.n, .slice p.A p.l p.c, .int .i64 p.x.K] 55)
  have hC := hid ((Chg.refl Nothing w).alloc (.cells #[.int .i64 p.x.kind, .int .i64 p.x.n, .slice p.A p.l p.c, .int .i64 p.x.K] 55))
  have hpn := hxh.out p hpm
  clear hpm
  simp only [GT.cnt] at hk
  have hI := ih hb (a + 1) k (b'.flat ++ r) (w.alloc (.cells #[.int .i64 p.x.kind, .int .i64 p.x.n, .slice p.A p.l p.c, .int .i64 p.x.K] 55)) (hHH.out _ hC.out) (hRR.out _ hC.out) (by rw [hd1, List.append_assoc]) (by omega)
  have hd2 : (ps.map NP.x).drop (a + 1 + b.flat.length) = b'.flat ++ r := by rw [← List.drop_drop, hd1, List.append_assoc, List.drop_left]
  have hI' := fun (w' : World) (hc : Chg Nothing w w') => ih' hb' (a + 1 + b.flat.length) (k + b.cnt) r w' (hHH.out _ hc) (hRR.out _ hc) hd2 (by omega)
  have hg := hgood.out b k (by rw [List.length_map, hmq]; omega)
  have hg' := hgood.out b' (k + b.cnt) (by rw [List.length_map, hmq]; omega)
  have ht := sumR_take_le (qs.map RP.xs) (k + b.cnt)
  have ht' := sumR_take_le (qs.map RP.xs) (k + b.cnt + b'.cnt)
  have hsm := hsumh.out
  simp only [List.length_drop, List.length_map, List.length_append, hlen] at hlenD
  have hI1 := hid hI
  have hI2 := hid hI'
  unfold TreeAns at hI1 hI2
  simp only [GT.flat, GT.cnt, gtV, List.length_cons, List.length_append]
  rw [gtV_rest, show a + (b.flat.length + b'.flat.length + 1) = a + 1 + b.flat.length + b'.flat.length from by omega, ← Nat.add_assoc]
  generalize (gtV N b ((qs.map RP.xs).drop k)).1 = v at hI1 hg ⊢
  generalize (gtV N b' ((qs.map RP.xs).drop (k + b.cnt))).1 = u at hI2 hg' ⊢
  have hvl : v.length ≤ 1000000000000 := by omega
  have hul : u.length ≤ 1000000000000 := by omega
  have hnx : ((a + 1 : Nat) : Int) = (a : Int) + 1 := by omega
  rw [hnx] at hI1
  generalize a + 1 + b.flat.length + b'.flat.length = a3 at hI2 ⊢
  generalize k + b.cnt + b'.cnt = k3 at hI2 ⊢
  generalize a + 1 + b.flat.length = a2 at hI1 hI2
  generalize k + b.cnt = k2 at hI1 hI2
  replace hnx := hid hnx
  obtain ⟨⟨hgr, -⟩, -⟩ := hg
  obtain ⟨⟨hgr', -⟩, -⟩ := hg'
  clear ht ht' hsm hlenD hI hI' H R hd hd1 hd2 ih ih' hpn
  rcases hkd with h4 | h5
  ·have b4 : (p.x.kind == 4) = false := beq_eq_false_iff_ne.2 (by rw [hx, h4]; decide)
   have b5 : (p.x.kind == 5) = false := beq_eq_false_iff_ne.2 (by rw [hx, h4]; decide)
   have b2 : (p.x.kind == 2) = true := beq_iff_eq.2 (by rw [hx]; exact h4)
   rw [if_pos h4, ← andR_eq]
   replace h4 := hid h4
   replace hx := hid hx
   go_enter Tryz.func53, Tryz.ntmps53
   go_wp2_with fail
   refine hI1.out.mono ?_
   rintro e w2 ⟨A2, c2', rfl, hR2, hc2⟩
   have hX2 := hid (hX.out.chg hc2 id)
   have hC2 := hid (hC.out.trans hc2)
   have y0 := hX2.out.cell 0 (v := .int .i64 p.x.kind) rfl
   have y1 := hX2.out.cell 1 (v := .int .i64 p.x.n) rfl
   have hR2h := hid hR2
   clear hc2 hR2 c0 c1 c2 c3
   go_wp2_with fail
   refine (hI2.out _ hC2.out).mono ?_
   rintro e w3 ⟨A3, c3', rfl, hR3, hc3⟩
   have hX3 := hid (hX2.out.chg hc3 id)
   have hC3 := hid (hC2.out.trans hc3)
   have z0 := hX3.out.cell 0 (v := .int .i64 p.x.kind) rfl
   have z1 := hX3.out.cell 1 (v := .int .i64 p.x.n) rfl
   have hR3h := hid hR3
   have hR2b := hid (hR2h.out.chg hc3)
   clear hc3 hR3 y0 y1
   have hNt := hid (refAnd_any _ _ A2 A3 v.length c2' u.length c3' v u w3 hR2b.out hR3h.out (by omega))
   go_wp2_with fail
   refine hNt.out.mono ?_
   rintro e w4 ⟨⟨A4, c4, rfl, hO4⟩, hc4⟩
   have hC4 := hid (hC3.out.trans hc4)
   have hR4 := hid (Rd18.of (ElsAt.of_own (d := (0 : Int)) hO4))
   clear hc4 hO4 z0 z1
   go_wp2
   go_ret3
   exact ⟨A4, c4, rfl, hR4.out, hC4.out⟩
  ·have b4 : (p.x.kind == 4) = false := beq_eq_false_iff_ne.2 (by rw [hx, h5]; decide)
   have b5 : (p.x.kind == 5) = false := beq_eq_false_iff_ne.2 (by rw [hx, h5]; decide)
   have b2 : (p.x.kind == 2) = false := beq_eq_false_iff_ne.2 (by rw [hx, h5]; decide)
   rw [if_neg (by rw [h5]; decide), ← orR_eq]
   replace h5 := hid h5
   replace hx := hid hx
   go_enter Tryz.func53, Tryz.ntmps53
   go_wp2_with fail
   refine hI1.out.mono ?_
   rintro e w2 ⟨A2, c2', rfl, hR2, hc2⟩
   have hX2 := hid (hX.out.chg hc2 id)
   have hC2 := hid (hC.out.trans hc2)
   have y0 := hX2.out.cell 0 (v := .int .i64 p.x.kind) rfl
   have y1 := hX2.out.cell 1 (v := .int .i64 p.x.n) rfl
   have hR2h := hid hR2
   clear hc2 hR2 c0 c1 c2 c3
   go_wp2_with fail
   refine (hI2.out _ hC2.out).mono ?_
   rintro e w3 ⟨A3, c3', rfl, hR3, hc3⟩
   have hX3 := hid (hX2.out.chg hc3 id)
   have hC3 := hid (hC2.out.trans hc3)
   have z0 := hX3.out.cell 0 (v := .int .i64 p.x.kind) rfl
   have z1 := hX3.out.cell 1 (v := .int .i64 p.x.n) rfl
   have hR3h := hid hR3
   have hR2b := hid (hR2h.out.chg hc3)
   clear hc3 hR3 y0 y1
   have hNt := hid (refOr15 _ _ A2 A3 v.length c2' u.length c3' v u w3 hR2b.out hR3h.out (fun _ h => h) (by omega))
   go_wp2_with fail
   refine hNt.out.mono ?_
   rintro e w4 ⟨⟨A4, n4, c4, rfl, hO4⟩, hc4⟩
   obtain rfl := hO4.2.2.2.1
   have hC4 := hid (hC3.out.trans hc4)
   have hR4 := hid (Rd18.of hO4)
   clear hc4 hO4 z0 z1
   go_wp2
   go_ret3
   exact ⟨A4, c4, rfl, hR4.out, hC4.out⟩
end Go.Proofs.YtoelilejohfglaaGreat
namespace Go.Proofs.YtoelilejohfglaaGreat
open Go.RowKit
set_option linter.unusedVariables false
set_option linter.unusedSimpArgs false
def RJoinAns (N : Int) (L : List Nd) (fs : List (List Int)) (w : World) (e : Ending) (w' : World) : Prop :=
 ∃ A' c', e = .returned (.tuple #[.slice A' (joinL N L fs).length c', .bool (joinB L fs)]) ∧ Rd18 w' A' c' (joinL N L fs) ∧ Chg Nothing w w'
theorem RJoinAns.no {N : Int} {L : List Nd} {fs : List (List Int)} {w w' : World} (h : joinB L fs = false) (hc : Chg Nothing w w') : RJoinAns N L fs w (.returned (.tuple #[.slice none 0 0, .bool false])) w' := by
 have e : joinL N L fs = [] := by unfold joinL; rw [h]; rfl
 unfold RJoinAns
 rw [e, h]
 exact ⟨none, 0, rfl, ElsAt.nil _ _, hc⟩
theorem RJoinAns.yes {N : Int} {L : List Nd} {fs : List (List Int)} {w w' : World} {V : List Int} (h : joinB L fs = true) (hV : joinL N L fs = V) {A : Option Addr} {c : Nat} (hR : Rd18 w' A c V) (hc : Chg Nothing w w') : RJoinAns N L fs w (.returned (.tuple #[.slice A V.length c, .bool true])) w' := by
 unfold RJoinAns
 rw [hV, h]
 exact ⟨A, c, rfl, hR, hc⟩
def IxrInv2 (qs : List RP) (w : World) (iv : Value) (wr : World) : Prop := ∃ k : Nat, k ≤ qs.length ∧ iv = .int .i64 k ∧ Hid ((qs.take k).all (fun q => rgtS (-1) q.xs) = true) ∧ Chg Nothing w wr
theorem refRight_chg18 {F : Nat → Prop} {A : Option Addr} {n c : Nat} {xs : List Int} {w : World} (h : IntsAt F w A n c xs) :
  Calls Tryz.prog 22 #[.slice A n c] w fun e w' => e = .returned (.bool (rgtS (-1) xs)) ∧ Chg Nothing w w' := by
 refine (refRight15 F A n c xs w h).mono ?_
 rintro e w' ⟨rfl, q, rfl⟩
 exact ⟨rfl, (Chg.refl _ _).drewN q⟩
theorem refJoin18_any (F F2 G : Nat → Prop) (A : Option Addr) (n c : Nat) (ps : List NP) (FA : Option Addr) (m fc : Nat) (qs : List RP) (N : Int) (w : World) (H : NRow F w A n c ps) (hn : n ≤ 1000000) (R : RRow F2 G w FA m fc qs) (hm : m ≤ 1000000)
  (hz : ∀ q ∈ qs, ∀ z ∈ q.xs, z ≤ 9223372036854775807) (hsum : sumR (qs.map RP.xs) ≤ 100000000000) :
  Calls Tryz.prog 21 #[.slice A n c, .slice FA m fc, .int .i64 N] w (RJoinAns N (ps.map NP.x) (qs.map RP.xs) w) := by
 have hRt := hid (refRight_any F A n c ps w H hn)
 have hLv := hid (fun (w' : World) (hc : Chg Nothing w w') => refLeaves_any F A n c ps w' (H.calm hc) hn)
 have hmq : qs.length = m := R.row.2.2.2.1
 have hcnt := leavesP_cnt ps
 have hHH := hid (fun (w' : World) (hc : Chg Nothing w w') => H.calm hc)
 have hRR := hid (fun (w' : World) (hc : Chg Nothing w w') => R.calm hc)
 have hle := R.row.2.1
 have hmx := R.row.2.2.1
 have hle2 := H.row.le
 have hmx2 := H.row.max
 clear H R
 by_cases hr : rightN (ps.map NP.x) = true
 ·rw [hr] at hRt
  by_cases hlen : m = (leavesP ps).length
  ·have hnb : ((m : Int) != (((leavesP ps).length : Nat) : Int)) = false := by rw [← hlen]; simp
   have hxn := hid (show ∀ p ∈ ps, p.x.n ≤ 9223372036854775807 from fun p hp => by
    have h1 := hr
    unfold rightN at h1
    simp only [Bool.and_eq_true, List.all_eq_true] at h1
    have h2 := (nodeD_iff p.x).1 (h1.1.1.2 p.x (List.mem_map_of_mem hp))
    unfold nodeB at h2
    have := h2.2.2.1
    omega)
   have hBB := hid (show joinB (ps.map NP.x) (qs.map RP.xs) = qs.all (fun q => rgtS (-1) q.xs) from by
    unfold joinB
    rw [hr, ← hcnt, List.length_map, hmq, hlen]
    simp [List.all_map, Function.comp_def])
   obtain ⟨-, t, htok, htL⟩ := right_tree18 hr
   have htc := hid (show t.cnt = m from by rw [hlen, hcnt, htL]; unfold cntN; rw [cnt_flat htok])
   have hmqh := hid hmq
   have hlh := hid hlen
   have hrh := hid hr
   have hzh := hid hz
   have hsumh := hid hsum
   have htL2 := hid htL
   have htok2 := hid htok
   clear hz hsum hr hcnt hlen hmq htL htok
   go_enter Tryz.func21, Tryz.ntmps21
   go_wp2_with fail
   refine hRt.out.mono ?_
   rintro e w1 ⟨rfl, hc1⟩
   have hC1 := hid hc1
   clear hc1
   go_wp2_with fail
   refine (hLv.out _ hC1.out).mono ?_
   rintro e w2 ⟨B, j, d, rfl, hLR, -, hc2⟩
   have hC2 := hid (hC1.out.trans hc2)
   rw [hLR.len] at hnb
   clear hc2 hLR
   go_wp2_with fail
   go_loopw [8] (fun iv wr => IxrInv2 qs w iv wr) (fun iv _ => m - (intOf iv).toNat)
   case atStart => exact ⟨0, Nat.zero_le _, rfl, hid rfl, hC2.out⟩
   case round =>
    obtain ⟨k, hk, rfl, hall, hchg⟩ := hrel
    rw [hmqh.out] at hk
    have hCr := hid hchg
    rcases Nat.lt_or_ge k m with hkn | hkn
    ·obtain ⟨g, o, rfl, -, hgl, c0⟩ := (hRR.out _ hchg).row.at_ hkn
     have hkl : k < qs.length := by rw [hmqh.out]; exact hkn
     obtain ⟨q, hq⟩ : ∃ q, q = qs.getD k rp0 := ⟨_, rfl⟩
     have hmem : q ∈ qs := by rw [hq]; simp [hkl]
     have htk := hid (show qs.take (k + 1) = qs.take k ++ [q] from by rw [List.take_succ_eq_append_getElem hkl, hq]; simp [hkl])
     rw [← hq] at c0
     replace hq := hid hq
     have hcl := hid (refRight_chg18 ((hRR.out _ hchg).els q hmem))
     replace hmem := hid hmem
     unfold rpV at c0
     clear hkl hchg
     have hk0 : (0 : Int) ≤ (k : Int) := by omega
     have hkn' : (k : Int) < (m : Int) := by omega
     cases hb : rgtS (-1) q.xs with
     | true =>
      rw [hb] at hcl
      have hnx := hid (show (qs.take (k + 1)).all (fun q => rgtS (-1) q.xs) = true from by rw [htk.out, List.all_append, hall.out]; simp [hb])
      replace hb := hid hb
      go_wp2_with fail
      refine hcl.out.mono ?_
      rintro e w4 ⟨rfl, hc4⟩
      have hC4 := hid (hCr.out.trans hc4)
      clear hc4 c0
      go_wp2
      go_roundw
      case rel => exact ⟨k + 1, by rw [hmqh.out]; exact hkn, by go_num, hnx, hC4.out⟩
      case measure => simp [intOf]; omega
     | false =>
      rw [hb] at hcl
      have hany := hid (show qs.all (fun q => rgtS (-1) q.xs) = false from by rw [List.all_eq_false]; exact ⟨q, hmem.out, by rw [hb]; decide⟩)
      replace hb := hid hb
      go_wp2_with fail
      refine hcl.out.mono ?_
      rintro e w4 ⟨rfl, hc4⟩
      have hC4 := hid (hCr.out.trans hc4)
      clear hc4 c0
      go_wp2
      go_ret2
      exact RJoinAns.no (by rw [hBB.out, hany.out]) hC4.out
    ·have hd : decide ((k : Int) < (m : Int)) = false := decide_eq_false (by omega)
     have hall2 : qs.all (fun q => rgtS (-1) q.xs) = true := by
      have := hall.out
      rwa [List.take_of_length_le (by rw [hmqh.out]; exact hkn)] at this
     have hB : joinB (ps.map NP.x) (qs.map RP.xs) = true := by rw [hBB.out, hall2]
     have hJL : joinL N (ps.map NP.x) (qs.map RP.xs) = (gtV N t (qs.map RP.xs)).1 := by unfold joinL; rw [if_pos hB, htL2.out, joinV_tree htok2.out]
     have hfine : ∀ q ∈ qs, FineR q.xs := fun q hq => ⟨List.all_eq_true.1 hall2 q hq, hzh.out q hq⟩
     have hTr := hid (refTree_any F F2 G A n c ps FA m fc qs N hn hm hfine hxn.out hsumh.out t htok2.out 0 0 [] wr (hHH.out _ hchg) (hRR.out _ hchg) (by rw [List.drop_zero, List.append_nil]; exact htL2.out) (by rw [htc.out]; omega))
     rw [List.drop_zero] at hTr
     unfold TreeAns at hTr
     generalize (gtV N t (qs.map RP.xs)).1 = V at hTr hJL
     replace hB := hid hB
     replace hJL := hid hJL
     clear hfine hall2 hchg
     go_wp2_with fail
     refine hTr.out.mono ?_
     rintro e w5 ⟨A5, c5, rfl, hR5, hc5⟩
     have hC5 := hid (hCr.out.trans hc5)
     have hR5h := hid hR5
     clear hc5 hR5
     go_wp2
     go_ret2
     exact RJoinAns.yes hB.out hJL.out hR5h.out hC5.out
  ·have hB : joinB (ps.map NP.x) (qs.map RP.xs) = false := by
    unfold joinB
    rw [← hcnt, List.length_map, hmq, decide_eq_false hlen]
    simp
   have hBh := hid hB
   have hnb : ((m : Int) != (((leavesP ps).length : Nat) : Int)) = true := by rw [bne_iff_ne]; omega
   have hlh := hid hlen
   clear hz hsum hr hB hcnt hlen
   go_enter Tryz.func21, Tryz.ntmps21
   go_wp2_with fail
   refine hRt.out.mono ?_
   rintro e w1 ⟨rfl, hc1⟩
   have hC1 := hid hc1
   clear hc1
   go_wp2_with fail
   refine (hLv.out _ hC1.out).mono ?_
   rintro e w2 ⟨B, j, d, rfl, hLR, -, hc2⟩
   have hC2 := hid (hC1.out.trans hc2)
   rw [hLR.len] at hnb
   clear hc2 hLR
   go_wp2
   go_ret2
   exact RJoinAns.no hBh.out hC2.out
 ·have hr' : rightN (ps.map NP.x) = false := by simpa using hr
  have hB : joinB (ps.map NP.x) (qs.map RP.xs) = false := by unfold joinB; rw [hr']; rfl
  rw [hr'] at hRt
  have hBh := hid hB
  clear hz hsum hr hr' hB hcnt
  go_enter Tryz.func21, Tryz.ntmps21
  go_wp2_with fail
  refine hRt.out.mono ?_
  rintro e w1 ⟨rfl, hc1⟩
  have hC1 := hid hc1
  clear hc1
  go_wp2
  go_ret2
  exact RJoinAns.no hBh.out hC1.out
end Go.Proofs.YtoelilejohfglaaGreat
