/- Joined texts: MapB RarA RarB RarC SpcA SpcB SpcC SpcD. -/
import Derived.Test.YtoelilejohfglaaGreatBunR
import Derived.Maps.Keyed
import Derived.WideLaws
import Derived.Test.YtoelilejohfglaaGreatBunT
import Derived.Test.YtoelilejohfglaaGreatBunS
import Derived.Deep.DrawnRows
set_option maxHeartbeats 16000000
set_option maxRecDepth 100000
namespace Go.Proofs.YtoelilejohfglaaGreat
open Go.RowKit
set_option linter.unusedVariables false
set_option linter.unusedSimpArgs false
open Go.ChangeMaps (setBlock heap_setBlock_same heap_setBlock_other)
def plTo (xs ks : List Cls) (b n : Nat) : List Int := ((List.range n).filter fun j => decide (xs.getD j 0 ∈ ks) && (xs.getD j 0).getLsbD b).map fun (i : Nat) => (i : Int)
theorem plTo_yes {xs ks : List Cls} {b n : Nat} (h : xs.getD n 0 ∈ ks) (h2 : (xs.getD n 0).getLsbD b = true) : plTo xs ks b (n + 1) = plTo xs ks b n ++ [(n : Int)] := by
 unfold plTo; rw [List.range_succ, List.filter_append, List.map_append, List.filter_cons_of_pos (by simp only [h, h2, decide_true]; rfl)]; simp
theorem plTo_no {xs ks : List Cls} {b n : Nat} (h : ¬ (xs.getD n 0 ∈ ks ∧ (xs.getD n 0).getLsbD b = true)) : plTo xs ks b (n + 1) = plTo xs ks b n := by
 unfold plTo; rw [List.range_succ, List.filter_append, List.map_append, List.filter_cons_of_neg (by simp only [Bool.and_eq_true, decide_eq_true_eq]; exact h)]; simp
def placesB (xs ks : List Cls) (b : Nat) : List Int := plTo xs ks b xs.length
theorem keyU8 : Maps.Keyed Tryz.prog 5 := Maps.int_keyed Tryz.underlying5
theorem keyB (b : Nat) (h : b < 256) : keyOf Tryz.prog 5 (.int .u8 (b : Nat)) = some (.int .u8 (b : Nat)) := Maps.keyOf_int_mk Tryz.underlying5 (by simp [Lit.wf, IntKind.min, IntKind.max, IntKind.bits, IntKind.signed]; omega)
theorem undMapP : Tryz.prog.underlying 168 = some (.map 5 37) := Tryz.underlying168
def EntP (w : World) (base : Nat) (xs ks : List Cls) (e : MapEntry) : Prop := ∃ (b : Nat) (A : Option Addr) (c : Nat), b < 256 ∧ e.key = .int .u8 (b : Nat) ∧ e.val = .slice A (placesB xs ks b).length c ∧ IntsAt (fun k => base ≤ k) w A (placesB xs ks b).length c (placesB xs ks b)
def MapP (w : World) (bm base n : Nat) (xs ks : List Cls) : Prop := ∃ es clock, w.heap[bm]? = some (.map es clock) ∧ es.size ≤ n ∧ ∀ e ∈ es.toList, EntP w base xs ks e
theorem MapP.made (w : World) (base : Nat) (xs ks : List Cls) : MapP (w.alloc (.map #[] 0)) w.heap.size base 0 xs ks := ⟨#[], 0, (MapKept.heap_alloc w _).1, Nat.le_refl _, by simp⟩
theorem EntP.chg {S : Nat → Prop} {w w' : World} {base : Nat} {xs ks : List Cls} {e : MapEntry} (h : EntP w base xs ks e) (hc : Chg S w w') (hn : ∀ k, base ≤ k → k < w.heap.size → ¬ S k) : EntP w' base xs ks e := by
 obtain ⟨b, A, c, h1, h2, h3, h4⟩ := h
 exact ⟨b, A, c, h1, h2, h3, h4.chg hc (fun k hk hb => hn k hb hk)⟩
theorem MapP.chg {S : Nat → Prop} {w w' : World} {bm base n : Nat} {xs ks : List Cls} (h : MapP w bm base n xs ks) (hc : Chg S w w') (hn : ¬ S bm) (hn2 : ∀ k, base ≤ k → k < w.heap.size → ¬ S k) : MapP w' bm base n xs ks := by
 obtain ⟨es, clock, hb, h2, h3⟩ := h
 exact ⟨es, clock, (hc.block bm (Array.getElem?_eq_some_iff.1 hb).1 hn).trans hb, h2, fun e he => (h3 e he).chg hc hn2⟩
theorem MapP.lt {w : World} {bm base n : Nat} {xs ks : List Cls} (h : MapP w bm base n xs ks) : bm < w.heap.size := by
 obtain ⟨es, clock, hb, -⟩ := h
 exact (Array.getElem?_eq_some_iff.1 hb).1
theorem MapP.up {w : World} {bm base n n' : Nat} {xs ks : List Cls} (h : MapP w bm base n xs ks) (hn : n ≤ n') : MapP w bm base n' xs ks := by
 obtain ⟨es, clock, hb, h2, h3⟩ := h
 exact ⟨es, clock, hb, by omega, h3⟩
theorem MapP.keys {w : World} {base : Nat} {xs ks : List Cls} {es : Array MapEntry} (h3 : ∀ e ∈ es.toList, EntP w base xs ks e) : ∀ e ∈ es.toList, ∃ l, keyOf Tryz.prog 5 e.key = some l := fun e he => by
 obtain ⟨b, A, c, hb, hk, -⟩ := h3 e he
 rw [hk]; exact ⟨_, keyB b hb⟩
theorem u8_inj {a b : Nat} (h : Value.int .u8 (a : Int) = .int .u8 (b : Int)) : a = b := by
 injection h with _ h; omega
theorem MapP.look {w : World} {bm base n : Nat} {xs ks : List Cls} (h : MapP w bm base n xs ks) (b : Nat) (hb8 : b < 256) :
  (∃ A c, (Instr.lookup 168 (.map (some bm)) (.int .u8 (b : Nat)) true).run Tryz.prog w = .ok (.tuple #[.slice A (placesB xs ks b).length c, .bool true]) w ∧ IntsAt (fun k => base ≤ k) w A (placesB xs ks b).length c (placesB xs ks b)) ∨
  (Instr.lookup 168 (.map (some bm)) (.int .u8 (b : Nat)) true).run Tryz.prog w = .ok (.tuple #[.slice none 0 0, .bool false]) w := by
 obtain ⟨es, clock, hb, h2, h3⟩ := h
 rcases keyU8.find w (keyB b hb8) es.toList (MapP.keys h3) with ⟨h5, h6⟩ | ⟨j, e0, h5, h6, h7⟩
 ·right
  simp [Instr.lookup, run_underlying undMapP, MapKept.run_getObj_map hb, keyU8.check w _ (keyB b hb8), h5, Result.andThen]
 ·left
  have hm := List.mem_of_getElem? h6
  obtain ⟨b', A, c, hb', hk, hv, hE⟩ := h3 e0 hm
  obtain rfl := u8_inj (hk.symm.trans h7)
  exact ⟨A, c, by simp [Instr.lookup, run_underlying undMapP, MapKept.run_getObj_map hb, keyU8.check w _ (keyB b' hb8), h5, hv, Result.andThen], hE⟩
theorem MapP.put {w : World} {bm base n : Nat} {xs ks : List Cls} (h : MapP w bm base n xs ks) (hn : n < maxLen) (b : Nat) (hb8 : b < 256) (A : Option Addr) (c : Nat) (hE : IntsAt (fun k => base ≤ k) w A (placesB xs ks b).length c (placesB xs ks b)) (hbm : bm < base) :
  ∃ w', (Instr.mapUpdate 168 (.map (some bm)) (.int .u8 (b : Nat)) (.slice A (placesB xs ks b).length c)).run Tryz.prog w = .ok () w' ∧ MapP w' bm base (n + 1) xs ks ∧ Chg (One bm) w w' := by
 obtain ⟨es, clock, hb, h2, h3⟩ := h
 have hkey := keyB b hb8
 have hchg : ∀ o, Chg (One bm) w (setBlock w bm o) := fun o => ⟨rfl, rfl, rfl, by simp [setBlock], fun i _ hi => heap_setBlock_other hb _ (fun e => hi e)⟩
 have hroom : es.size < maxLen := by omega
 have hst : ∀ o e, EntP w base xs ks e → EntP (setBlock w bm o) base xs ks e := fun o e he => he.chg (hchg o) (fun k hk _ e => by have : k = bm := e; omega)
 have hEs : ∀ o, IntsAt (fun k => base ≤ k) (setBlock w bm o) A (placesB xs ks b).length c (placesB xs ks b) := fun o => hE.chg (hchg o) (fun k _ hk e => by have : k = bm := e; omega)
 rcases keyU8.find w hkey es.toList (MapP.keys h3) with ⟨h5, h6⟩ | ⟨j, e0, h5, h6, h7⟩
 ·refine ⟨setBlock w bm (.map (es.push ⟨.int .u8 (b : Nat), .slice A (placesB xs ks b).length c, clock⟩) (clock + 1)), ?_, ⟨_, _, heap_setBlock_same hb _, by simp; omega, ?_⟩, hchg _⟩
  ·simp [Instr.mapUpdate, run_underlying undMapP, MapKept.run_getObj_map hb, keyU8.check w false hkey, h5, MapKept.run_setObj_map _ hb, Result.andThen, setBlock]
  ·intro e he
   simp only [Array.toList_push, List.mem_append, List.mem_singleton] at he
   rcases he with he | rfl
   ·exact hst _ e (h3 e he)
   ·exact ⟨b, A, c, hb8, rfl, rfl, hEs _⟩
 ·have hj : es[j]? = some e0 := by simpa using h6
  have hm := List.mem_of_getElem? h6
  refine ⟨setBlock w bm (.map (es.modify j (fun e' => { e' with key := .int .u8 (b : Nat), val := .slice A (placesB xs ks b).length c })) clock), ?_, ⟨_, clock, heap_setBlock_same hb _, by simp; omega, fun e he => ?_⟩, hchg _⟩
  ·have hs := fun es' => MapKept.run_setObj_map (P := Tryz.prog) (.map es' clock) hb
   simp [Instr.mapUpdate, run_underlying undMapP, MapKept.run_getObj_map hb, keyU8.check w false hkey, h5, hj, h7, keyU8.stays w hkey, hs, Result.andThen, setBlock]
  ·obtain ⟨q, hq, rfl⟩ := List.getElem_of_mem he
   simp only [Array.getElem_toList, Array.getElem_modify]
   split
   ·exact ⟨b, A, c, hb8, rfl, rfl, hEs _⟩
   ·exact hst _ _ (h3 _ (by simp))
theorem wpList_map_put {w : World} {ops : Array Oper} {rest : List Oper} {o : Oper} {a : Act} {Q : Exit → Act → World → Prop} (hg : o.guard = none) (m x v : Operand) (hop : o.op = Op.mapUpdate 168 m x v)
  {bm base n : Nat} {xs ks : List Cls} (hm : a.eval m = .map (some bm)) (h : MapP w bm base n xs ks) (hn : n < maxLen) (b : Nat) (hb8 : b < 256) (A : Option Addr) (c : Nat) (hE : IntsAt (fun k => base ≤ k) w A (placesB xs ks b).length c (placesB xs ks b)) (hbm : bm < base) (hx : a.eval x = .int .u8 (b : Nat)) (hv : a.eval v = .slice A (placesB xs ks b).length c)
  (hK : ∀ w', MapP w' bm base (n + 1) xs ks → Chg (One bm) w w' → wpList Tryz.prog ops Q rest (a.put o.dst undef) w') : wpList Tryz.prog ops Q (o :: rest) a w := by
 refine wpList_plain hg fun K' hK' => ?_
 obtain ⟨w', hrun, r1, r2⟩ := h.put hn b hb8 A c hE hbm
 unfold Oper.wp
 simp [execOp, hop, hm, hx, hv, hrun, Result.andThen]
 exact hK' _ _ (hK w' r1 r2)
end Go.Proofs.YtoelilejohfglaaGreat
namespace Go.Proofs.YtoelilejohfglaaGreat
open Go.RowKit
set_option linter.unusedVariables false
set_option linter.unusedSimpArgs false
theorem IRow.els0 {w : World} {base : Nat} {A : Option Addr} {n c : Nat} {xs : List Int} (h : IRow w base A n c xs) : IntsAt (fun k => Of A k ∧ base ≤ k) w A n c xs := ElsAt.of_own h
def SpRaInv (w : World) (xs ks : List Cls) (b n : Nat) (ov iv : Value) (wr : World) : Prop := ∃ (k L : Nat) (A : Option Addr) (c : Nat), k ≤ n ∧ L ≤ k ∧ iv = .int .i64 k ∧ ov = .slice A L c ∧ IRow wr w.heap.size A L c (plTo xs ks b k) ∧ Chg Nothing w wr
theorem rareAt_any (F F2 : Nat → Prop) (A : Option Addr) (n c : Nat) (xs : List Cls) (K : Int) (A2 : Option Addr) (n2 c2 : Nat) (ks : List Cls) (bm base cnt q1 q2 q3 b : Nat) (w : World)
  (H : ClsRow F w A n c xs) (hl : xs.length = n) (H2 : ClsRow F2 w A2 n2 c2 ks) (hl2 : ks.length = n2) (hn9 : n ≤ 1000000000)
  (h1 : Blk w q1 #[.map (some bm)] 168) (h2 : Blk w q2 #[.slice A n c, .int .i64 K] 34) (h3 : Blk w q3 #[.slice A2 n2 c2] 32)
  (hM : MapP w bm base cnt xs ks) (hbs : base ≤ w.heap.size) (hbm : bm < base) (hcnt : cnt < maxLen) (hb8 : b < 256) :
  Calls Tryz.prog 177 #[.int .u8 (b : Nat), .pointer (some ⟨q1, 0, none⟩), .pointer (some ⟨q2, 0, none⟩), .pointer (some ⟨q3, 0, none⟩)] w fun e w' => ∃ A' c', e = .returned (.slice A' (placesB xs ks b).length c') ∧ IntsAt (fun k => base ≤ k) w' A' (placesB xs ks b).length c' (placesB xs ks b) ∧ MapP w' bm base (cnt + 1) xs ks ∧ Chg (One bm) w w' := by
 have x0 := h1.cell 0 (v := .map (some bm)) rfl
 rcases hM.look b hb8 with ⟨A', c', hlk, hE⟩ | hlk
 ·have hEh := hid hE
  have hMh := hid (hM.up (Nat.le_succ cnt))
  clear H hl H2 hl2 h1 h2 h3 hM hE
  go_enter Tryz.func177, Tryz.ntmps177
  go_wp2
  go_ret
  exact ⟨A', c', rfl, hEh.out, hMh.out, Chg.refl _ _⟩
 ·have y0 := h2.cell 0 (v := .slice A n c) rfl
  have HH := hid (fun (w' : World) (hc : Chg Nothing w w') => H.chg hc (fun _ _ _ h => h))
  have HH2 := hid (fun (w' : World) (hc : Chg Nothing w w') => H2.chg hc (fun _ _ _ h => h))
  have hlh := hid hl
  have hlh2 := hid hl2
  have hmx := H.max
  have hle := H.le
  have h1h := hid h1
  have h3h := hid h3
  have hMh := hid hM
  clear H hl H2 hl2 h1 h2 h3 hM
  go_enter Tryz.func177, Tryz.ntmps177
  go_wp2_with fail
  go_loopw [6, 21] (fun ov iv wr => SpRaInv w xs ks b n ov iv wr) (fun _ iv _ => n - (intOf iv).toNat)
  case atStart => exact ⟨0, 0, none, 0, Nat.zero_le _, Nat.zero_le _, rfl, rfl, World.ownsRow_nil _ _ _ _, Chg.refl _ _⟩
  case round =>
   obtain ⟨k, L, A1, c1, hk, hLk, rfl, rfl, hown, hchg⟩ := hrel
   rcases Nat.lt_or_ge k n with hkn | hkn
   ·obtain ⟨g, o, rfl, -, hgl, d0, d1, d2, d3⟩ := ClsRow.four (HH.out _ hchg) hlh.out hkn
    have hk0 : (0 : Int) ≤ (k : Int) := by omega
    have hkI : (k : Int) < (n : Int) := by omega
    have hy := hid (fun h1 h2 => plTo_yes (xs := xs) (ks := ks) (b := b) (n := k) h1 h2)
    have hno := hid (fun h => plTo_no (xs := xs) (ks := ks) (b := b) (n := k) h)
    obtain ⟨y, hyd⟩ : ∃ y, y = xs.getD k 0 := ⟨_, rfl⟩
    rw [← hyd] at d0 d1 d2 d3 hy hno
    have hOw := hid hown
    have hCr := hid hchg
    have hZ := hid (Blk.new wr #[.int .u64 0, .int .u64 0, .int .u64 0, .int .u64 0] 84)
    clear hown hchg hyd
    go_wp2_with (with_reducible refine halt_op (.store 84 (.tmp 9) (.tmp 25)) ?_)
    unfold Halted
    refine store_blk rfl 84 (.tmp 9) (.tmp 25) (by rfl) _ (by rfl) _ (by rfl) hZ.out (by rfl) (by exact sizeCls) (by rfl) ?_
    intro w3 hB3 hc3
    have hcz := hid (((Chg.refl Nothing wr).alloc (.cells #[.int .u64 0, .int .u64 0, .int .u64 0, .int .u64 0] 84)).then hc3 (fun i hi h => absurd (show i = wr.heap.size from h) (by omega)))
    have hC3 := hid (hCr.out.trans hcz.out)
    have hO3 := hid (own_chg hOw.out hcz.out (fun _ _ h => h))
    obtain ⟨r0, r1, r2, r3, -, -, -, -, hlt1⟩ := CBox.at_ (show CBox w3 wr.heap.size y from hB3)
    have hBX := hid (show CBox w3 wr.heap.size y from hB3)
    have hHas := hid (fun (w' : World) => (show Calls Tryz.prog 158 #[litC y, .int .u8 (b : Nat)] w' fun e w'' => e = .returned (.bool (y.getLsbD b)) ∧ Chg Nothing w' w'' from classHas_any y b w' hb8))
    have hCon := hid (fun (w' : World) (hc : Chg Nothing w w') => sContains_any F2 A2 n2 c2 ks y w' (HH2.out w' hc) hlh2.out)
    clear hB3 hc3 hZ hcz hOw hCr d0 d1 d2 d3
    obtain ⟨t, ht⟩ : ∃ t, t = y.getLsbD b := ⟨_, rfl⟩
    rw [← ht] at hHas hy hno
    cases t with
    | false =>
     have hnn := hid (hno.out (fun h => absurd h.2 (by decide)))
     clear hy hno ht hCon
     go_wp2_with fail
     refine (hHas.out _).mono ?_
     rintro e w4 ⟨rfl, hc4⟩
     have hO4 := hid (own_chg hO3.out hc4 (fun _ _ h => h))
     have hC4 := hid (hC3.out.trans hc4)
     clear hc4 hHas r0 r1 r2 r3
     go_wp2
     go_roundw
     case rel => exact ⟨k + 1, L, A1, c1, hkn, by omega, by go_num, rfl, by rw [hnn.out]; exact hO4.out, hC4.out⟩
     case measure => simp [intOf]; omega
    | true =>
     clear ht
     obtain ⟨m, hm⟩ : ∃ m, m = decide (y ∈ ks) := ⟨_, rfl⟩
     rw [← hm] at hCon
     cases m with
     | false =>
      have hnn := hid (hno.out (fun h => of_decide_eq_false hm.symm h.1))
      clear hy hno hm
      go_wp2_with fail
      refine (hHas.out _).mono ?_
      rintro e w4 ⟨rfl, hc4⟩
      have hO4 := hid (own_chg hO3.out hc4 (fun _ _ h => h))
      have hC4 := hid (hC3.out.trans hc4)
      obtain ⟨s0, s1, s2, s3, -, -, -, -, hlt2⟩ := CBox.at_ (hBX.out.chg hc4 id)
      have z0 := (h3h.out.chg hC4.out id).cell 0 (v := .slice A2 n2 c2) rfl
      clear hc4 hHas r0 r1 r2 r3
      go_wp2_with fail
      refine (hCon.out _ hC4.out).mono ?_
      rintro e w5 ⟨rfl, hc5⟩
      have hO5 := hid (own_chg hO4.out hc5 (fun _ _ h => h))
      have hC5 := hid (hC4.out.trans hc5)
      clear hc5 s0 s1 s2 s3 z0
      go_wp2
      go_roundw
      case rel => exact ⟨k + 1, L, A1, c1, hkn, by omega, by go_num, rfl, by rw [hnn.out]; exact hO5.out, hC5.out⟩
      case measure => simp [intOf]; omega
     | true =>
      have hyy := hid (hy.out (of_decide_eq_true hm.symm) rfl)
      clear hy hno hm
      go_wp2_with fail
      refine (hHas.out _).mono ?_
      rintro e w4 ⟨rfl, hc4⟩
      have hO4 := hid (own_chg hO3.out hc4 (fun _ _ h => h))
      have hC4 := hid (hC3.out.trans hc4)
      obtain ⟨s0, s1, s2, s3, -, -, -, -, hlt2⟩ := CBox.at_ (hBX.out.chg hc4 id)
      have z0 := (h3h.out.chg hC4.out id).cell 0 (v := .slice A2 n2 c2) rfl
      clear hc4 hHas r0 r1 r2 r3
      go_wp2_with fail
      refine (hCon.out _ hC4.out).mono ?_
      rintro e w5 ⟨rfl, hc5⟩
      have hO5 := hid (own_chg hO4.out hc5 (fun _ _ h => h))
      have hC5 := hid (hC4.out.trans hc5)
      have hsz5 := hid hC5.out.size
      clear hc5 s0 s1 s2 s3 z0
      go_wp2_with (at_builtin; refine append_one rfl _ _ 37 rfl w.heap.size 3 (.int .i64 0) 8 Tryz.underlying37 infoInt rfl A1 c1 L _ rfl hO5.out (.int .i64 (k : Nat)) rfl rfl ?_ ?_ ?_ ?_)
      ·omega
      ·omega
      ·have := hsz5.out; omega
      intro A' c' w6 hown6 hc6 hA6
      have hO6 := hid (show IRow w6 w.heap.size A' (L + 1) c' (plTo xs ks b (k + 1)) from by rw [hyy.out]; unfold IRow; rw [List.map_append]; exact hown6)
      have oa6 := own_of hO5.out
      have hC6 := hid (hC5.out.then hc6 (fun i hi h => by have := oa6 _ h; omega))
      clear hown6 hc6 hA6
      go_wp2
      go_roundw
      case rel => exact ⟨k + 1, L + 1, A', c', hkn, by omega, by go_num, rfl, hO6.out, hC6.out⟩
      case measure => simp [intOf]; omega
   ·obtain rfl : k = n := by omega
    have hd : decide ((k : Int) < (k : Int)) = false := decide_eq_false (by omega)
    have hl := hid hown.1
    have hOw := hid hown
    have hCr := hid hchg
    have z0 := (h1h.out.chg hchg id).cell 0 (v := .map (some bm)) rfl
    have hL : L = (plTo xs ks b k).length := by have := hl.out; simpa using this.symm
    have hpl : plTo xs ks b k = placesB xs ks b := by unfold placesB; rw [hlh.out]
    rw [hpl] at hL hOw
    subst hL
    have hMr := hid (hMh.out.chg hchg id (fun _ _ _ h => h))
    have hEr := hid ((IRow.els0 hOw.out).mono (G := fun k => base ≤ k) (fun k _ h => Nat.le_trans hbs h.2))
    clear hown hchg hpl hMh
    go_wp2_with (with_reducible refine halt_op (.mapUpdate 168 (.tmp 39) (.tmp 40) (.tmp 41)) ?_)
    unfold Halted
    refine wpList_map_put rfl _ _ _ rfl rfl hMr.out hcnt b hb8 A1 c1 hEr.out hbm rfl rfl ?_
    intro w7 hM7 hc7
    have hM7h := hid hM7
    have hE7 := hid (hEr.out.chg hc7 (fun k _ hk e => by have : k = bm := e; omega))
    have hC7 := hid ((hCr.out.mono (fun _ _ h => h.elim)).trans hc7)
    clear hM7 hc7 z0
    go_wp2
    go_ret
    exact ⟨A1, c1, rfl, hE7.out, hM7h.out, hC7.out⟩
def rareTo (xs ks : List Cls) (s : ByteArray) (k q m : Nat) : Int := sumN m (fun j => if q + j < k ∧ xs.getD j 0 ∈ ks ∧ (xs.getD j 0).getLsbD (s.data[q + j]?.getD 0).toNat = true then 1 else 0)
theorem rareTo_all (xs ks : List Cls) (s : ByteArray) (q : Nat) (h : q + xs.length ≤ s.size) : rareTo xs ks s s.size q xs.length = rareN xs ks s q := by
 unfold rareTo rareN
 refine sumN_congr fun j hj => ?_
 have h2 : q + j < s.size := by omega
 simp only [h2, true_and]
theorem rareTo_none (xs ks : List Cls) (s : ByteArray) (q m : Nat) : rareTo xs ks s 0 q m = 0 := by
 unfold rareTo
 exact sumN_zero _ _ fun j _ => by rw [if_neg (fun h => by omega)]
theorem rareTo_succ (xs ks : List Cls) (s : ByteArray) (i q : Nat) : ∀ m, rareTo xs ks s (i + 1) q m = rareTo xs ks s i q m + if q ≤ i ∧ ((i - q : Nat) : Int) ∈ plTo xs ks (s.data[i]?.getD 0).toNat m then 1 else 0
 | 0 => by simp [rareTo, sumN, plTo]
 | m + 1 => by
  have ih := rareTo_succ xs ks s i q m
  have e1 : ∀ k, rareTo xs ks s k q (m + 1) = rareTo xs ks s k q m + if q + m < k ∧ xs.getD m 0 ∈ ks ∧ (xs.getD m 0).getLsbD (s.data[q + m]?.getD 0).toNat = true then 1 else 0 := fun k => rfl
  rw [e1, e1, ih]
  by_cases he : q + m = i
  ·subst he
   have h0 : ¬ ((q + m - q : Nat) : Int) ∈ plTo xs ks (s.data[q + m]?.getD 0).toNat m := by
    unfold plTo
    rw [List.mem_map]
    rintro ⟨j, hj, hjq⟩
    have := List.mem_range.1 (List.mem_filter.1 hj).1
    omega
   rw [if_neg (fun h => h0 h.2), if_neg (fun h : q + m < q + m ∧ _ => absurd h.1 (by omega))]
   by_cases hp : xs.getD m 0 ∈ ks ∧ (xs.getD m 0).getLsbD (s.data[q + m]?.getD 0).toNat = true
   ·rw [if_pos ⟨by omega, hp⟩, if_pos ⟨by omega, by rw [plTo_yes hp.1 hp.2]; exact List.mem_append_right _ (List.mem_singleton.2 (by omega))⟩]
    try omega
   ·rw [if_neg (fun h => hp h.2), plTo_no hp, if_neg (fun h => h0 h.2)]
  ·have h1 : (if q + m < i + 1 ∧ xs.getD m 0 ∈ ks ∧ (xs.getD m 0).getLsbD (s.data[q + m]?.getD 0).toNat = true then (1 : Int) else 0) = if q + m < i ∧ xs.getD m 0 ∈ ks ∧ (xs.getD m 0).getLsbD (s.data[q + m]?.getD 0).toNat = true then 1 else 0 := by
    have : (q + m < i + 1) = (q + m < i) := propext ⟨fun h => by omega, fun h => by omega⟩
    simp only [this]
   have h2 : (q ≤ i ∧ ((i - q : Nat) : Int) ∈ plTo xs ks (s.data[i]?.getD 0).toNat (m + 1)) = (q ≤ i ∧ ((i - q : Nat) : Int) ∈ plTo xs ks (s.data[i]?.getD 0).toNat m) := propext (by
    by_cases hp : xs.getD m 0 ∈ ks ∧ (xs.getD m 0).getLsbD (s.data[i]?.getD 0).toNat = true
    ·rw [plTo_yes hp.1 hp.2, List.mem_append, List.mem_singleton]
     constructor
     ·rintro ⟨h, h3 | h3⟩
      ·exact ⟨h, h3⟩
      ·omega
     ·rintro ⟨h, h3⟩; exact ⟨h, .inl h3⟩
    ·rw [plTo_no hp])
   rw [h1]
   simp only [h2]
   omega
theorem rareTo_bound (xs ks : List Cls) (s : ByteArray) (k q m : Nat) : 0 ≤ rareTo xs ks s k q m ∧ rareTo xs ks s k q m ≤ m := by
 unfold rareTo
 refine ⟨sumN_nonneg _ _ fun u _ => by split <;> omega, ?_⟩
 have := sumN_le m (fun j => if q + j < k ∧ xs.getD j 0 ∈ ks ∧ (xs.getD j 0).getLsbD (s.data[q + j]?.getD 0).toNat = true then (1 : Int) else 0) 1 (fun u _ => by split <;> omega)
 omega
theorem plTo_nodup (xs ks : List Cls) (b n : Nat) : (plTo xs ks b n).Nodup := by
 unfold plTo
 exact List.pairwise_map.2 ((List.Nodup.sublist List.filter_sublist List.nodup_range).imp (fun h e => h (by omega)))
theorem plTo_nat (xs ks : List Cls) (b n m : Nat) (h : m < (plTo xs ks b n).length) : ∃ j : Nat, j < n ∧ (plTo xs ks b n).getD m 0 = (j : Int) := by
 have h2 := List.getElem_mem h
 have h3 : (plTo xs ks b n).getD m 0 = (plTo xs ks b n)[m] := by rw [List.getD_eq_getElem?_getD, List.getElem?_eq_getElem h]; rfl
 rw [h3]
 obtain ⟨x, hx⟩ : ∃ x, x = (plTo xs ks b n)[m] := ⟨_, rfl⟩
 rw [← hx] at h2 ⊢
 unfold plTo at h2
 rw [List.mem_map] at h2
 obtain ⟨j, hj, rfl⟩ := h2
 exact ⟨j, List.mem_range.1 (List.mem_filter.1 hj).1, rfl⟩
def inTo (L : List Int) (i m q : Nat) : Int := if q ≤ i ∧ ((i - q : Nat) : Int) ∈ L.take m then 1 else 0
theorem take_more (L : List Int) (m : Nat) (h : m < L.length) : L.take (m + 1) = L.take m ++ [L.getD m 0] := by
 rw [List.take_succ_eq_append_getElem h]; simp [h]
theorem inTo_hit {L : List Int} (hn : L.Nodup) {i m j d : Nat} (hm : m < L.length) (hj : L.getD m 0 = (j : Int)) (hd : i = j + d) (q : Nat) : inTo L i (m + 1) q = if q = d then inTo L i m d + 1 else inTo L i m q := by
 unfold inTo
 have h0 : ¬ (j : Int) ∈ L.take m := by
  intro h
  have h2 := (List.nodup_append.1 (by rw [← take_more L m hm]; exact List.Nodup.sublist (List.take_sublist _ _) hn : (L.take m ++ [L.getD m 0]).Nodup)).2.2
  exact h2 _ h _ (List.mem_singleton.2 rfl) hj.symm
 rw [take_more L m hm, hj]
 by_cases hq : q = d
 ·subst hq
  rw [if_pos rfl, if_pos ⟨by omega, List.mem_append_right _ (List.mem_singleton.2 (by omega))⟩, if_neg (fun h => h0 (by have := h.2; rwa [show i - q = j from by omega] at this))]
  rfl
 ·rw [if_neg hq]
  have : (q ≤ i ∧ ((i - q : Nat) : Int) ∈ L.take m ++ [(j : Int)]) = (q ≤ i ∧ ((i - q : Nat) : Int) ∈ L.take m) := propext (by
   rw [List.mem_append, List.mem_singleton]
   constructor
   ·rintro ⟨h, h3 | h3⟩
    ·exact ⟨h, h3⟩
    ·omega
   ·rintro ⟨h, h3⟩; exact ⟨h, .inl h3⟩)
  simp only [this]
theorem inTo_miss {L : List Int} {i m j N : Nat} (hm : m < L.length) (hj : L.getD m 0 = (j : Int)) (hd : ¬ (j ≤ i ∧ i - j < N)) (q : Nat) (hq : q < N) : inTo L i (m + 1) q = inTo L i m q := by
 unfold inTo
 rw [take_more L m hm, hj]
 have : (q ≤ i ∧ ((i - q : Nat) : Int) ∈ L.take m ++ [(j : Int)]) = (q ≤ i ∧ ((i - q : Nat) : Int) ∈ L.take m) := propext (by
  rw [List.mem_append, List.mem_singleton]
  constructor
  ·rintro ⟨h, h3 | h3⟩
   ·exact ⟨h, h3⟩
   ·omega
  ·rintro ⟨h, h3⟩; exact ⟨h, .inl h3⟩)
 simp only [this]
theorem inTo_bound (L : List Int) (i m q : Nat) : 0 ≤ inTo L i m q ∧ inTo L i m q ≤ 1 := by unfold inTo; split <;> omega
theorem inTo_zero (L : List Int) (i q : Nat) : inTo L i 0 q = 0 := by unfold inTo; rw [if_neg (by simp)]
theorem rareTo_next (xs ks : List Cls) (s : ByteArray) (i q : Nat) : rareTo xs ks s i q xs.length + inTo (placesB xs ks (s.data[i]?.getD 0).toNat) i (placesB xs ks (s.data[i]?.getD 0).toNat).length q = rareTo xs ks s (i + 1) q xs.length := by
 rw [rareTo_succ]
 unfold inTo placesB
 rw [List.take_length]
def sumsN (xs : List Cls) (K : Int) (N : Nat) : Nat := if rightB xs K = true then N + 1 - xs.length else 0
theorem splitSums_any (F : Nat → Prop) (A : Option Addr) (n c : Nat) (xs : List Cls) (K : Int) (s : ByteArray) (w : World) (H : ClsRow F w A n c xs) (hl : xs.length = n) (hs : s.size ≤ 1000000000) :
  Calls Tryz.prog 176 #[.agg #[.slice A n c, .int .i64 K], .string s] w fun e w' => e = .returned (.int .i64 (sumsN xs K s.size : Nat)) ∧ Chg Nothing w w' := by
 have hX := hid (Blk.new w #[.slice A n c, .int .i64 K] 34)
 have hw0 := hid ((Chg.refl Nothing w).alloc (.cells #[.slice A n c, .int .i64 K] 34))
 have hR := hid (leafRight_any F A n c xs K _ (H.chg hw0.out (fun _ _ _ h => h)) hl)
 have x0 := hX.out.cell 0 (v := .slice A n c) rfl
 have x1 := hX.out.cell 1 (v := .int .i64 K) rfl
 have hmx := H.max
 have hle := H.le
 obtain ⟨r, hr⟩ : ∃ r, r = rightB xs K := ⟨_, rfl⟩
 have hsm : sumsN xs K s.size = if r = true then s.size + 1 - n else 0 := by unfold sumsN; rw [← hr, hl]
 rw [← hr] at hR
 cases r with
 | false =>
  have hsm2 := hid (show sumsN xs K s.size = 0 from by rw [hsm]; rfl)
  clear hsm hr H hl
  go_enter Tryz.func176, Tryz.ntmps176
  go_wp2_with fail
  refine hR.out.mono ?_
  rintro e w1 ⟨rfl, hc1⟩
  have hC1 := hid (hw0.out.trans hc1)
  clear hc1 x0 x1
  go_wp2
  go_ret
  exact ⟨by rw [hsm2.out]; rfl, hC1.out⟩
 | true =>
  have h64 := (right_len hr.symm).2
  rw [hl] at h64
  obtain ⟨N, hN⟩ : ∃ N, N = s.size + 1 - n := ⟨_, rfl⟩
  have hsm2 := hid (show sumsN xs K s.size = N from by rw [hsm, hN]; rfl)
  have hite : (if (0 : Int) < (s.size : Int) - (n : Int) + 1 then (s.size : Int) - (n : Int) + 1 else 0) = (N : Int) := by split <;> omega
  have hmax : max (0 : Int) ((s.size : Int) - (n : Int) + 1) = (N : Int) := by omega
  replace hN := hid hN
  clear hsm hr H hl
  go_enter Tryz.func176, Tryz.ntmps176
  go_wp2_with fail
  refine hR.out.mono ?_
  rintro e w1 ⟨rfl, hc1⟩
  have y0 := (hX.out.chg hc1 id).cell 0 (v := .slice A n c) rfl
  have hC1 := hid (hw0.out.trans hc1)
  clear hc1 x0 x1
  go_wp2
  go_ret
  exact ⟨by rw [hsm2.out]; first | rfl | simp [hite, hmax], hC1.out⟩
def SpRoInv (W0 : World) (gO N bm base : Nat) (xs ks : List Cls) (s : ByteArray) (iv : Value) (wr : World) : Prop := ∃ k : Nat, k ≤ s.size ∧ iv = .int .i64 k ∧ IBlk wr gO N (fun q => rareTo xs ks s k q xs.length) ∧ MapP wr bm base k xs ks ∧ Chg (two gO bm) W0 wr
def SpRiInv (w2 : World) (gO N : Nat) (f : Nat → Int) (L : List Int) (i l : Nat) (iv : Value) (wr : World) : Prop := ∃ m : Nat, m ≤ l ∧ iv = .int .i64 m ∧ IBlk wr gO N (fun q => f q + inTo L i m q) ∧ Chg (One gO) w2 wr
theorem splitRare_any (F F2 : Nat → Prop) (A : Option Addr) (n c : Nat) (xs : List Cls) (K : Int) (s : ByteArray) (A2 : Option Addr) (n2 c2 : Nat) (ks : List Cls) (w : World)
  (H : ClsRow F w A n c xs) (hl : xs.length = n) (H2 : ClsRow F2 w A2 n2 c2 ks) (hl2 : ks.length = n2) (hn9 : n ≤ 1000000000) (hs : s.size ≤ 100000000) :
  Calls Tryz.prog 149 #[.agg #[.slice A n c, .int .i64 K], .string s, .slice A2 n2 c2] w fun e w' => ∃ g, e = .returned (.slice (some ⟨g, 0, none⟩) (sumsN xs K s.size) (sumsN xs K s.size)) ∧ w.heap.size ≤ g ∧ IBlk w' g (sumsN xs K s.size) (fun q => rareTo xs ks s s.size q xs.length) ∧ Chg Nothing w w' := by
 have hX := hid ((Blk.new w #[.slice A n c, .int .i64 K] 34).alloc (.cells #[.slice A2 n2 c2] 32))
 have hY := Blk.new (w.alloc (.cells #[.slice A n c, .int .i64 K] 34)) #[.slice A2 n2 c2] 32
 rw [World.size_alloc] at hY
 replace hY := hid hY
 have hw0 := hid (((Chg.refl Nothing w).alloc (.cells #[.slice A n c, .int .i64 K] 34)).alloc (.cells #[.slice A2 n2 c2] 32))
 have HH := hid (fun (w' : World) (hc : Chg Nothing w w') => H.chg hc (fun _ _ _ h => h))
 have HH2 := hid (fun (w' : World) (hc : Chg Nothing w w') => H2.chg hc (fun _ _ _ h => h))
 have hSm := hid (splitSums_any F A n c xs K s _ (HH.out _ hw0.out) hl (by omega))
 have x0 := hX.out.cell 0 (v := .slice A n c) rfl
 have x1 := hX.out.cell 1 (v := .int .i64 K) rfl
 have hlh := hid hl
 have hlh2 := hid hl2
 have hNb : sumsN xs K s.size ≤ s.size + 1 := by unfold sumsN; split <;> omega
 obtain ⟨N, hN⟩ : ∃ N, N = sumsN xs K s.size := ⟨_, rfl⟩
 rw [← hN] at hSm hNb ⊢
 replace hN := hid hN
 have hmk := fun w => make_int N (by omega) w
 have hmm := @run_makeMap Tryz.prog
 clear H hl H2 hl2
 go_enter Tryz.func149, Tryz.ntmps149
 go_wp2_with fail
 refine hSm.out.mono ?_
 rintro e w1 ⟨rfl, hc1⟩
 have hX1 := hid (hX.out.chg hc1 id)
 have hY1 := hid (hY.out.chg hc1 id)
 have hC1 := hid (hw0.out.trans hc1)
 have hlo := hid hC1.out.size
 have hq3 := hid hY1.out.lt
 clear hX hY hw0 hc1 x0 x1 hSm
 go_wp2_with fail
 have hc2 := ((((Chg.refl Nothing w1).alloc (.cells (madeCells #[.int .i64 0] N) 3)).alloc (.map #[] 0)).alloc (.cells #[.map (some (w1.heap.size + 1))] 168))
 have hO2 := hid ((IBlk.made w1 N).chg (((Chg.refl Nothing _).alloc (.map #[] 0)).alloc (.cells #[.map (some (w1.heap.size + 1))] 168)) id)
 have hM2 := MapP.made (w1.alloc (.cells (madeCells #[.int .i64 0] N) 3)) (w1.heap.size + 3) xs ks
 rw [World.size_alloc] at hM2
 replace hM2 := hid (hM2.chg ((Chg.refl Nothing _).alloc (.cells #[.map (some (w1.heap.size + 1))] 168)) id (fun _ _ _ h => h))
 have hb2 := Blk.new ((w1.alloc (.cells (madeCells #[.int .i64 0] N) 3)).alloc (.map #[] 0)) #[.map (some (w1.heap.size + 1))] 168
 rw [World.size_alloc, World.size_alloc] at hb2
 replace hb2 := hid hb2
 have hX2 := hid (hX1.out.chg hc2 id)
 have hY2 := hid (hY1.out.chg hc2 id)
 have hC2 := hid (hC1.out.trans hc2)
 have hz2 := hid (show (((w1.alloc (.cells (madeCells #[.int .i64 0] N) 3)).alloc (.map #[] 0)).alloc (.cells #[.map (some (w1.heap.size + 1))] 168)).heap.size = w1.heap.size + 3 from by simp only [World.size_alloc])
 obtain ⟨gO, hgO⟩ : ∃ gO, gO = w1.heap.size := ⟨_, rfl⟩
 rw [← hgO] at hO2 hM2 hb2 hX2 hY2 hC2 hz2 hq3 hlo ⊢
 clear hgO hc2 hX1 hY1 hC1
 generalize (((w1.alloc (.cells (madeCells #[.int .i64 0] N) 3)).alloc (.map #[] 0)).alloc (.cells #[.map (some (gO + 1))] 168)) = W0 at *
 have hq2 := hid (show w.heap.size + 1 < gO from hq3.out)
 have hCw := hid (fun (wr : World) (hc : Chg (two gO (gO + 1)) W0 wr) => Chg.then hC2.out hc (fun i hi e => by have := hq2.out; have h2 : i = gO ∨ i = gO + 1 := e; omega))
 have hNd := hid hNb
 clear hmk hmm
 go_loopw [21] (fun iv wr => SpRoInv W0 gO N (gO + 1) (gO + 3) xs ks s iv wr) (fun iv _ => s.size - (intOf iv).toNat)
 case atStart => exact ⟨0, Nat.zero_le _, rfl, hO2.out.congr (fun q _ => (rareTo_none xs ks s q xs.length).symm), hM2.out, Chg.refl _ _⟩
 case round =>
  obtain ⟨k, hk, rfl, hIr, hMr, hchg⟩ := hrel
  rcases Nat.lt_or_ge k s.size with hks | hks
  ·have hk0 : (0 : Int) ≤ (k : Int) := by omega
   have hkI : (k : Int) < (s.size : Int) := by omega
   have h256 : s[k].toNat < 256 := UInt8.toNat_lt _
   have hXr := hX2.out.chg hchg (fun e => by have := hq2.out; have h2 : w.heap.size = gO ∨ w.heap.size = gO + 1 := e; omega)
   have hYr := hY2.out.chg hchg (fun e => by have := hq2.out; have h2 : w.heap.size + 1 = gO ∨ w.heap.size + 1 = gO + 1 := e; omega)
   have hbr := hb2.out.chg hchg (fun e => by have h2 : gO + 1 + 1 = gO ∨ gO + 1 + 1 = gO + 1 := e; omega)
   have hAt := hid (rareAt_any F F2 A n c xs K A2 n2 c2 ks (gO + 1) (gO + 3) k (gO + 1 + 1) w.heap.size (w.heap.size + 1) s[k].toNat wr (HH.out _ (hCw.out _ hchg)) hlh.out (HH2.out _ (hCw.out _ hchg)) hlh2.out hn9 hbr hXr hYr hMr (by have h1 := hz2.out; have h2 := hchg.size; omega) (by omega) (by unfold maxLen; omega) h256)
   have hb : s.data[k]?.getD 0 = s[k] := by rw [Array.getElem?_eq_getElem hks]; rfl
   have hnx := hid (fun q => rareTo_next xs ks s k q)
   rw [hb] at hnx
   have hIrh := hid hIr
   have hCr := hid hchg
   clear hXr hYr hbr hIr hMr hchg hb
   go_wp2_with fail
   refine hAt.out.mono ?_
   rintro e w2 ⟨AP, cP, rfl, hE2, hM3, hc3⟩
   have hI3 := hid (hIrh.out.chg hc3 (fun e => absurd (show gO = gO + 1 from e) (by omega)))
   have hC3 := hid (hCr.out.trans (hc3.mono (fun i _ h => (.inr h : two gO (gO + 1) i))))
   have hE3 := hid hE2
   have hM3h := hid hM3
   have hz3 := hid (show gO + 3 ≤ w2.heap.size from by have h1 := hz2.out; have h2 := hC3.out.size; omega)
   have hnat := hid (fun (m : Nat) (h : m < (plTo xs ks s[k].toNat xs.length).length) => plTo_nat xs ks s[k].toNat xs.length m h)
   have hnd := hid (plTo_nodup xs ks s[k].toNat xs.length)
   obtain ⟨L, hL⟩ : ∃ L, L = placesB xs ks s[k].toNat := ⟨_, rfl⟩
   have hL2 : L = plTo xs ks s[k].toNat xs.length := hL
   rw [← hL] at hE3 hnx ⊢
   rw [← hL2] at hnat hnd
   replace hL := hid hL
   replace hL2 := hid hL2
   have hLm := hid hE3.out.2.1
   have hLc := hid hE3.out.2.2.1
   obtain ⟨f, hf⟩ : ∃ f : Nat → Int, f = fun q => rareTo xs ks s k q xs.length := ⟨_, rfl⟩
   rw [← hf] at hI3
   have hfb := hid (fun q => show 0 ≤ f q ∧ f q ≤ 1000000000 from by
    rw [hf]
    have h1 := rareTo_bound xs ks s k q xs.length
    have h2 := hlh.out
    show 0 ≤ rareTo xs ks s k q xs.length ∧ rareTo xs ks s k q xs.length ≤ 1000000000
    omega)
   have hfn := hid (fun q => show f q + inTo L k L.length q = rareTo xs ks s (k + 1) q xs.length from by rw [hf]; exact hnx.out q)
   replace hf := hid hf
   clear hE2 hM3 hc3 hIrh hCr hnx hAt
   obtain ⟨l, hll⟩ : ∃ l, l = L.length := ⟨_, rfl⟩
   rw [← hll] at hE3 hfn hLm ⊢
   have hl9 : l ≤ 9223372036854775807 := Nat.le_trans hLm.out hLc.out
   replace hll := hid hll
   go_wp2_with fail
   go_loopw [30] (fun iv wr => SpRiInv w2 gO N f L k l iv wr) (fun iv _ => l - (intOf iv).toNat)
   case atStart => exact ⟨0, Nat.zero_le _, rfl, hI3.out.congr (fun q _ => by rw [inTo_zero]; omega), Chg.refl _ _⟩
   case round =>
    obtain ⟨m, hm, rfl, hIm, hcm⟩ := hrel
    rcases Nat.lt_or_ge m l with hml | hml
    ·have hm0 : (0 : Int) ≤ (m : Int) := by omega
     have hmI : (m : Int) < (l : Int) := by omega
     obtain ⟨g2, o2, rfl, -, hg2, e0⟩ := (hE3.out.chg hcm (fun j _ hj e => by have h2 : j = gO := e; omega)).at_ hml
     obtain ⟨j, hjn, hj⟩ := hnat.out m (by rw [← hll.out]; exact hml)
     obtain ⟨jI, hjI⟩ : ∃ jI : Int, jI = L.getD m 0 := ⟨_, rfl⟩
     rw [← hjI] at e0
     have hjv : jI = (j : Int) := hjI.trans hj
     by_cases hd : j ≤ k ∧ k - j < N
     ·obtain ⟨d, hkd⟩ : ∃ d, k = j + d := ⟨k - j, by omega⟩
      have hdN : d < N := by omega
      have hge : jI ≤ (k : Int) := by omega
      have hwp : IntKind.i64.wrap ((k : Int) - jI) = (d : Int) := by rw [IntKind.wrap_i64]; omega
      have hd0 : (0 : Int) ≤ (d : Int) := by omega
      have hdI : (d : Int) < (N : Int) := by omega
      have p0 := hIm.cell hdN
      have p1 := hIm.free d
      have pl := hIm.lt
      have hfd := hfb.out d
      have hib := inTo_bound L k m d
      have hst := hid ((hIm.set d (f d + inTo L k m d + 1)).congr (f' := fun q => f q + inTo L k (m + 1) q) (fun q hq => by
       rw [inTo_hit hnd.out (by rw [← hll.out]; exact hml) hj hkd q]
       by_cases hqd : q = d
       ·rw [if_pos hqd, if_pos hqd, hqd]; omega
       ·rw [if_neg hqd, if_neg hqd]))
      have hC4 := hid (hcm.setOne d (.int .i64 (f d + inTo L k m d + 1)))
      obtain ⟨v, hv⟩ : ∃ v, v = f d + inTo L k m d := ⟨_, rfl⟩
      rw [← hv] at p0 hst hC4
      have hw1 : IntKind.i64.wrap (v + 1) = v + 1 := by rw [IntKind.wrap_i64]; omega
      clear hIm hcm hjv hjI hkd hj hd hv hfd hib
      go_wp2
      go_roundw
      case rel => exact ⟨m + 1, hml, by go_num, hst.out, hC4.out⟩
      case measure => simp [intOf]; omega
     ·have hst := hid (hIm.congr (f' := fun q => f q + inTo L k (m + 1) q) (fun q hq => by rw [inTo_miss (by rw [← hll.out]; exact hml) hj hd q hq]))
      have hC4 := hid hcm
      by_cases hjk : j ≤ k
      ·have hge : jI ≤ (k : Int) := by omega
       obtain ⟨dI, hdI⟩ : ∃ dI : Int, dI = (k : Int) - jI := ⟨_, rfl⟩
       have hwp : IntKind.i64.wrap ((k : Int) - jI) = dI := by rw [IntKind.wrap_i64]; omega
       have hnl : decide (dI < (N : Int)) = false := decide_eq_false (by omega)
       clear hIm hcm hjv hjI hj hd hdI
       go_wp2
       go_roundw
       case rel => exact ⟨m + 1, hml, by go_num, hst.out, hC4.out⟩
       case measure => simp [intOf]; omega
      ·have hge : decide (jI ≤ (k : Int)) = false := decide_eq_false (by omega)
       clear hIm hcm hjv hjI hj hd
       go_wp2
       go_roundw
       case rel => exact ⟨m + 1, hml, by go_num, hst.out, hC4.out⟩
       case measure => simp [intOf]; omega
    ·obtain rfl : l = m := by omega
     have hd : decide ((l : Int) < (l : Int)) = false := decide_eq_false (by omega)
     have hI9 := hid (hIm.congr (f' := fun q => rareTo xs ks s (k + 1) q xs.length) (fun q hq => hfn.out q))
     have hM9 := hid (hM3h.out.chg hcm (fun e => absurd (show gO + 1 = gO from e) (by omega)) (fun j hj _ e => by have h2 : j = gO := e; omega))
     have hC9 := hid (hC3.out.trans (hcm.mono (fun i _ h => (.inl h : two gO (gO + 1) i))))
     clear hIm hcm
     go_wp2
     go_roundw
     case rel => exact ⟨k + 1, hks, by go_num, hI9.out, hM9.out, hC9.out⟩
     case measure => simp [intOf]; omega
  ·obtain rfl : k = s.size := by omega
   have hd : decide ((s.size : Int) < (s.size : Int)) = false := decide_eq_false (by omega)
   have hIh := hid hIr
   have hCh := hid (hCw.out _ hchg)
   clear hIr hMr hchg
   go_wp2
   go_ret
   exact ⟨gO, rfl, hlo.out, hIh.out, hCh.out⟩
def amissF (xs : List Cls) (K : Int) (n size nf : Int) : Int := if rightB xs K = true ∧ plainB xs = true then (if 0 < nf ∧ sizeBad xs.length n size = true then 50 else 0) else 170
theorem splitCheck_any (F : Nat → Prop) (A : Option Addr) (n c : Nat) (xs : List Cls) (K : Int) (s : ByteArray) (size nf : Int) (w : World) (H : ClsRow F w A n c xs) (hl : xs.length = n) (hn9 : n ≤ 1000000000) :
  Calls Tryz.prog 148 #[.agg #[.slice A n c, .int .i64 K], .string s, .int .i64 size, .int .i64 nf] w fun e w' => e = .returned (.int .i64 (amissF xs K s.size size nf)) ∧ Chg Nothing w w' := by
 have hX := hid (Blk.new w #[.slice A n c, .int .i64 K] 34)
 have x0 := hX.out.cell 0 (v := .slice A n c) rfl
 have x1 := hX.out.cell 1 (v := .int .i64 K) rfl
 have hL := hid (fun w => nttLog_any size w)
 have hc0 := hid ((Chg.refl Nothing w).alloc (.cells #[.slice A n c, .int .i64 K] 34))
 have HH := hid (fun (w' : World) (hc : Chg Nothing w w') => H.chg hc (fun _ _ _ h => h))
 have hR := hid (leafRight_any F A n c xs K (w.alloc (.cells #[.slice A n c, .int .i64 K] 34)) (HH.out _ hc0.out) hl)
 have hP := hid (fun (w' : World) (hc : Chg Nothing w w') => leafPlain_any F A n c xs K w' (HH.out _ hc) hl hn9)
 have hE := hid (show amissF xs K s.size size nf = if rightB xs K = true ∧ plainB xs = true then (if 0 < nf ∧ (decide ((n : Int) ≤ (s.size : Int)) && (!(logS size).isSome || decide (size < (n : Int)))) = true then 50 else 0) else 170 from by unfold amissF sizeBad; rw [hl])
 obtain ⟨V, hV⟩ : ∃ V, V = amissF xs K s.size size nf := ⟨_, rfl⟩
 rw [← hV]
 rw [hE.out] at hV
 generalize rightB xs K = r at hR hV
 generalize plainB xs = pl at hP hV
 generalize logS size = o at hL hV
 have hle := H.le
 have hmx := H.max
 clear H hl hE
 obtain ⟨lg, hlg⟩ : ∃ lg : Int, lg = ((o.getD 0 : Nat) : Int) := ⟨_, rfl⟩
 rw [← hlg] at hL
 obtain ⟨is, his⟩ : ∃ is, is = o.isSome := ⟨_, rfl⟩
 rw [← his] at hL hV
 replace hV := hid hV
 clear hlg his
 go_enter Tryz.func148, Tryz.ntmps148
 go_wp2_with fail
 refine (hL.out _).mono ?_
 rintro e w0 ⟨rfl, rfl⟩
 go_wp2_with fail
 refine hR.out.mono ?_
 rintro e w1 ⟨rfl, hc1⟩
 have hX1 := hid (hX.out.chg hc1 id)
 have hC1 := hid (hc0.out.trans hc1)
 clear hc1 x0 x1 hX hc0 hR
 cases r with
 | false =>
  go_wp2
  go_ret
  exact ⟨by rw [hV.out]; simp, hC1.out⟩
 | true =>
  have x0 := hX1.out.cell 0 (v := .slice A n c) rfl
  have x1 := hX1.out.cell 1 (v := .int .i64 K) rfl
  go_wp2_with fail
  refine (hP.out _ hC1.out).mono ?_
  rintro e w2 ⟨rfl, hc2⟩
  have hC2 := hid (hC1.out.trans hc2)
  have y0 := (hX1.out.chg hc2 id).cell 0 (v := .slice A n c) rfl
  clear hc2 x0 x1 hX1 hP
  cases pl with
  | false =>
   go_wp2
   go_ret
   exact ⟨by rw [hV.out]; simp [*], hC2.out⟩
  | true =>
   by_cases h0 : 0 < nf
   ·by_cases h1 : (n : Int) ≤ (s.size : Int)
    ·have e1 : decide ((n : Int) ≤ (s.size : Int)) = true := decide_eq_true h1
     cases is with
     | false =>
      go_wp2
      go_ret
      exact ⟨by rw [hV.out]; simp [*], hC2.out⟩
     | true =>
      by_cases h2 : size < (n : Int)
      ·have e2 : decide (size < (n : Int)) = true := decide_eq_true h2
       go_wp2
       go_ret
       exact ⟨by rw [hV.out]; simp [*], hC2.out⟩
      ·have e2 : decide (size < (n : Int)) = false := decide_eq_false h2
       go_wp2
       go_ret
       exact ⟨by rw [hV.out]; simp [*], hC2.out⟩
    ·have e1 : decide ((n : Int) ≤ (s.size : Int)) = false := decide_eq_false h1
     go_wp2
     go_ret
     exact ⟨by rw [hV.out]; simp [*], hC2.out⟩
   ·have e0 : decide (0 < nf) = false := decide_eq_false h0
    go_wp2
    go_ret
    have hn0 : ¬ (0 < nf ∧ (decide ((n : Int) ≤ (s.size : Int)) && (!is || decide (size < (n : Int)))) = true) := fun h => by have := h.1; omega
    exact ⟨by rw [hV.out, if_neg hn0]; rfl, hC2.out⟩
def fHit (xs : List Cls) (s : ByteArray) (least : Int) (k i : Nat) : Int := slideN xs.length (placeF xs ((freqL xs least).getD k 0)) (markF ((freqL xs least).getD k 0) s) i
def fSum (xs : List Cls) (s : ByteArray) (least : Int) (k i : Nat) : Int := sumN k (fun j => fHit xs s least j i)
theorem fSum_succ (xs : List Cls) (s : ByteArray) (least : Int) (k i : Nat) : fSum xs s least (k + 1) i = fSum xs s least k i + fHit xs s least k i := rfl
theorem fSum_all (xs : List Cls) (s : ByteArray) (least : Int) (i : Nat) : boundN xs - (rareN xs (rareL xs least) s i + fSum xs s least (freqL xs least).length i) = missN xs s i := by
 have h := sumL_take (freqL xs least) (fun c => slideN xs.length (placeF xs c) (markF c s) i) (freqL xs least).length (Nat.le_refl _)
 rw [List.take_length] at h
 have h2 : fSum xs s least (freqL xs least).length i = sumL (freqL xs least) (fun c => slideN xs.length (placeF xs c) (markF c s) i) := h
 rw [h2]
 exact freq_rare xs least s i
theorem slide_bound (xs : List Cls) (c : Cls) (s : ByteArray) (i : Nat) (h : xs.length ≤ 64) : 0 ≤ slideN xs.length (placeF xs c) (markF c s) i ∧ slideN xs.length (placeF xs c) (markF c s) i ≤ 64 := by
 unfold slideN
 have hb : ∀ u, 0 ≤ placeF xs c u * markF c s (i + u) ∧ placeF xs c u * markF c s (i + u) ≤ 1 := fun u => by
  have h1 := placeF_bound xs c u
  have h2 := markF_bound c s (i + u)
  have h3 : placeF xs c u = 0 ∨ placeF xs c u = 1 := by omega
  rcases h3 with h3 | h3 <;> rw [h3] <;> omega
 refine ⟨sumN_nonneg _ _ fun u _ => (hb u).1, ?_⟩
 have := sumN_le xs.length (fun u => placeF xs c u * markF c s (i + u)) 1 (fun u _ => (hb u).2)
 omega
theorem fHit_bound (xs : List Cls) (s : ByteArray) (least : Int) (k i : Nat) (h : xs.length ≤ 64) : 0 ≤ fHit xs s least k i ∧ fHit xs s least k i ≤ 64 := slide_bound xs _ s i h
theorem fSum_bound (xs : List Cls) (s : ByteArray) (least : Int) (i : Nat) (h : xs.length ≤ 64) : ∀ k, 0 ≤ fSum xs s least k i ∧ fSum xs s least k i ≤ 64 * k
 | 0 => by simp [fSum, sumN]
 | k + 1 => by
  have h1 := fSum_bound xs s least i h k
  have h2 := fHit_bound xs s least k i h
  rw [fSum_succ]; omega
theorem freqL_len (xs : List Cls) (least : Int) : (freqL xs least).length ≤ xs.length := Nat.le_trans (List.length_filter_le _ _) (kindsL_len xs)
theorem al_bound (k : Nat) (cs : Int) (h0 : 0 ≤ cs) (h : cs ≤ 10000000000) (hk : k ≤ 64) : 0 ≤ (k : Int) * cs ∧ (k : Int) * cs ≤ 640000000000 := by
 refine ⟨Int.mul_nonneg (by omega) h0, ?_⟩
 have := Int.mul_le_mul (show (k : Int) ≤ 64 by omega) h h0 (by omega)
 omega
def e12 (xs : List Cls) (K n size least : Int) : Int := amissF xs K n size (freqL xs least).length
def y12 (xs : List Cls) (K : Int) (s : ByteArray) (size least : Int) : List Int := if e12 xs K s.size size least = 0 then countsL xs s else []
def n12 (xs : List Cls) (K : Int) (s : ByteArray) (size least : Int) : Int := if e12 xs K s.size size least = 0 then ((freqL xs least).length : Int) * countS xs.length s.size size else 0
def ScA (w2 : World) (gO N NF : Nat) (xs : List Cls) (s : ByteArray) (least cs : Int) (av iv : Value) (wr : World) : Prop := ∃ (k : Nat) (al : Int), k ≤ NF ∧ iv = .int .i64 k ∧ av = .int .i64 al ∧ Hid (al = (k : Int) * cs) ∧ IBlk wr gO N (fun i => rareN xs (rareL xs least) s i + fSum xs s least k i) ∧ Chg (One gO) w2 wr
def ScB (wb : World) (gO N : Nat) (f v : Nat → Int) (iv : Value) (wr : World) : Prop := ∃ i : Nat, i ≤ N ∧ iv = .int .i64 i ∧ IBlk wr gO N (fun q => if q < i then v q else f q) ∧ Chg (One gO) wb wr
theorem scb_step {f v : Nat → Int} {i N : Nat} (q : Nat) (hq : q < N) : (if q = i then v i else (if q < i then v q else f q)) = if q < i + 1 then v q else f q := by
 by_cases h : q = i
 ·have h3 : q < i + 1 := by omega
  rw [if_pos h, if_pos h3, h]
 ·rw [if_neg h]
  by_cases h2 : q < i
  ·have h3 : q < i + 1 := by omega
   rw [if_pos h2, if_pos h3]
  ·have h3 : ¬ q < i + 1 := by omega
   rw [if_neg h2, if_neg h3]
theorem splitCounts_bad (F : Nat → Prop) (A : Option Addr) (n c : Nat) (xs : List Cls) (K : Int) (s : ByteArray) (size least : Int) (w : World) (H : ClsRow F w A n c xs) (hl : xs.length = n) (hn9 : n ≤ 1000000000) (hE : ¬ e12 xs K s.size size least = 0) :
  Calls Tryz.prog 122 #[.agg #[.slice A n c, .int .i64 K], .string s, .int .i64 size, .int .i64 least] w fun e w' => GivesSym w.heap.size w' e (y12 xs K s size least) (n12 xs K s size least) (e12 xs K s.size size least) ∧ Chg Nothing w w' := by
 have hX := hid (Blk.new w #[.slice A n c, .int .i64 K] 34)
 have x0 := hX.out.cell 0 (v := .slice A n c) rfl
 have x1 := hX.out.cell 1 (v := .int .i64 K) rfl
 have hw0 := hid ((Chg.refl Nothing w).alloc (.cells #[.slice A n c, .int .i64 K] 34))
 have HH := hid (fun (w' : World) (hc : Chg Nothing w w') => H.chg hc (fun _ _ _ h => h))
 have hPa := hid (splitParts_any F A n c xs K least (w.alloc (.cells #[.slice A n c, .int .i64 K] 34)) (HH.out _ hw0.out) hl hn9)
 have hCh := hid (fun (w' : World) (hc : Chg Nothing w w') => (show Calls Tryz.prog _ _ w' fun e w'' => e = .returned (.int .i64 (e12 xs K s.size size least)) ∧ Chg Nothing w' w'' from splitCheck_any F A n c xs K s size (freqL xs least).length w' (HH.out _ hc) hl hn9))
 have hYe := hid (show y12 xs K s size least = [] from by unfold y12; rw [if_neg hE])
 have hNe := hid (show n12 xs K s size least = 0 from by unfold n12; rw [if_neg hE])
 rw [hYe.out, hNe.out]
 generalize e12 xs K s.size size least = E at hCh hE ⊢
 have hEb : (E == 0) = false := beq_eq_false_iff_ne.2 hE
 clear H hl
 go_enter Tryz.func122, Tryz.ntmps122
 go_wp2_with fail
 refine hPa.out.mono ?_
 rintro e w1 ⟨A1, c1, A2, c2, rfl, -, -, hc1⟩
 have hC1 := hid (hw0.out.trans hc1)
 have hX1 := hid (hX.out.chg hc1 id)
 have y0 := hX1.out.cell 0 (v := .slice A n c) rfl
 have y1 := hX1.out.cell 1 (v := .int .i64 K) rfl
 clear hc1 x0 x1 hX hw0 hPa
 go_wp2_with fail
 refine (hCh.out _ hC1.out).mono ?_
 rintro e w2 ⟨rfl, hc2⟩
 have hC2 := hid (hC1.out.trans hc2)
 clear hc2 y0 y1 hCh
 go_wp2
 go_ret3
 exact ⟨⟨none, 0, rfl, World.ownsRow_nil _ _ _ _⟩, hC2.out⟩
theorem amissF_zero {xs : List Cls} {K n size nf : Int} (h : amissF xs K n size nf = 0) : rightB xs K = true ∧ plainB xs = true ∧ (0 < nf → sizeBad xs.length n size = false) := by
 unfold amissF at h
 split at h
 ·rename_i h1
  refine ⟨h1.1, h1.2, fun h0 => ?_⟩
  split at h
  ·omega
  ·rename_i h2
   cases hz : sizeBad (xs.length : Int) n size with
   | false => rfl
   | true => exact absurd ⟨h0, hz⟩ h2
 ·omega
theorem splitCounts_ok (F : Nat → Prop) (A : Option Addr) (n c : Nat) (xs : List Cls) (K : Int) (s : ByteArray) (size least : Int) (w : World) (H : ClsRow F w A n c xs) (hl : xs.length = n) (hs : s.size ≤ 100000000) (hE : e12 xs K s.size size least = 0) :
  Calls Tryz.prog 122 #[.agg #[.slice A n c, .int .i64 K], .string s, .int .i64 size, .int .i64 least] w fun e w' => GivesSym w.heap.size w' e (countsL xs s) (((freqL xs least).length : Int) * countS n s.size size) 0 ∧ Chg Nothing w w' := by
 have hX := hid (Blk.new w #[.slice A n c, .int .i64 K] 34)
 have x0 := hX.out.cell 0 (v := .slice A n c) rfl
 have x1 := hX.out.cell 1 (v := .int .i64 K) rfl
 have hw0 := hid ((Chg.refl Nothing w).alloc (.cells #[.slice A n c, .int .i64 K] 34))
 have HH := hid (fun (w' : World) (hc : Chg Nothing w w') => H.chg hc (fun _ _ _ h => h))
 obtain ⟨hr, -, hsz⟩ := amissF_zero hE
 have h1 := (right_len hr).1
 have h64 := (right_len hr).2
 have h64x := hid h64
 rw [hl] at h1 h64
 have hn9 : n ≤ 1000000000 := by omega
 have hPa := hid (splitParts_any F A n c xs K least (w.alloc (.cells #[.slice A n c, .int .i64 K] 34)) (HH.out _ hw0.out) hl hn9)
 have hCh := hid (fun (w' : World) (hc : Chg Nothing w w') => (show Calls Tryz.prog _ _ w' fun e w'' => e = .returned (.int .i64 (e12 xs K s.size size least)) ∧ Chg Nothing w' w'' from splitCheck_any F A n c xs K s size (freqL xs least).length w' (HH.out _ hc) hl hn9))
 rw [hE] at hCh
 have hlh := hid hl
 obtain ⟨N, hN⟩ : ∃ N, N = s.size + 1 - n := ⟨_, rfl⟩
 have hN9 : N ≤ 100000001 := by omega
 have hsm := hid (show sumsN xs K s.size = N from by unfold sumsN; rw [if_pos hr, hl, hN])
 have hcl := hid (show countsL xs s = (List.range N).map (missN xs s) from by unfold countsL; rw [hl, hN])
 replace hN := hid hN
 obtain ⟨cs, hcs⟩ : ∃ cs, cs = countS n s.size size := ⟨_, rfl⟩
 have hcb := countS_bound n s.size size (by omega) (by omega)
 rw [← hcs] at hcb ⊢
 have hNFb := freqL_len xs least
 obtain ⟨NF, hNF⟩ : ∃ NF, NF = (freqL xs least).length := ⟨_, rfl⟩
 rw [← hNF] at hPa hsz hNFb ⊢
 rw [hl] at hNFb hsz
 have hszh := hid hsz
 replace hNF := hid hNF
 replace hcs := hid hcs
 clear H hl hr hE hsz
 go_enter Tryz.func122, Tryz.ntmps122
 go_wp2_with fail
 refine hPa.out.mono ?_
 rintro e w1 ⟨A1, c1, A2, c2, rfl, hO1, hO2, hc1⟩
 have hC1 := hid (hw0.out.trans hc1)
 have hX1 := hid (hX.out.chg hc1 id)
 have hO1h := hid hO1
 have hO2h := hid hO2
 have y0 := hX1.out.cell 0 (v := .slice A n c) rfl
 have y1 := hX1.out.cell 1 (v := .int .i64 K) rfl
 clear hc1 x0 x1 hX hw0 hPa hO1 hO2
 go_wp2_with fail
 try rw [hNF.out]
 refine (hCh.out _ hC1.out).mono ?_
 rintro e w2 ⟨rfl, hc2⟩
 rw [← hNF.out]
 have hC2 := hid (hC1.out.trans hc2)
 have hX2 := hid (hX1.out.chg hc2 id)
 have hO12 := hid (own_chg hO1h.out hc2 (fun _ _ h => h))
 have hO22 := hid (own_chg hO2h.out hc2 (fun _ _ h => h))
 have z0 := hX2.out.cell 0 (v := .slice A n c) rfl
 have z1 := hX2.out.cell 1 (v := .int .i64 K) rfl
 have hRa := hid (fun (n2 : Nat) (hn2 : (rareL xs least).length = n2) (hO : CRow w2 (w.alloc (.cells #[.slice A n c, .int .i64 K] 34)).heap.size A2 n2 c2 (rareL xs least)) => splitRare_any F _ A n c xs K s A2 n2 c2 (rareL xs least) w2 (HH.out _ hC2.out) hlh.out (RowAt.of_own hO) hn2 hn9 hs)
 rw [hsm.out] at hRa
 clear hc2 y0 y1 hX1 hO1h hO2h hC1
 go_wp2_with fail
 refine (hRa.out _ rfl hO22.out).mono ?_
 rintro e w3 ⟨gO, rfl, hgO, hI3, hc3⟩
 have hC3 := hid (hC2.out.trans hc3)
 have hX3 := hid (hX2.out.chg hc3 id)
 have hO13 := hid (own_chg hO12.out hc3 (fun _ _ h => h))
 have hO1o := hid (fun j hj => (own_of hO12.out j hj).2)
 have hlo := hid (show w.heap.size < gO from Nat.lt_of_lt_of_le hX2.out.lt hgO)
 have hgOh := hid hgO
 have hI3h := hid (hI3.congr (f' := fun i => rareN xs (rareL xs least) s i + fSum xs s least 0 i) (fun q hq => by
  rw [rareTo_all xs _ s q (by rw [hlh.out]; have := hN.out; omega)]
  show _ = _ + 0
  omega))
 clear hc3 z0 z1 hX2 hO12 hO22 hRa hgO hI3
 have hCw := hid (fun (wr : World) (hc : Chg (One gO) w3 wr) => Chg.then hC3.out hc (fun i hi e => absurd (show i = gO from e) (by have := hlo.out; omega)))
 go_wp2_with fail
 go_loopw [15, 45] (fun av iv wr => ScA w3 gO N NF xs s least cs av iv wr) (fun _ iv _ => NF - (intOf iv).toNat)
 case atStart => exact ⟨0, 0, Nat.zero_le _, rfl, rfl, hid (by simp), hI3h.out, Chg.refl _ _⟩
 case round =>
  obtain ⟨k, al, hk, rfl, rfl, hal, hIr, hchg⟩ := hrel
  rcases Nat.lt_or_ge k NF with hkn | hkn
  ·have hk0 : (0 : Int) ≤ (k : Int) := by omega
   have hkI : (k : Int) < (NF : Int) := by omega
   have hbad := hszh.out (by omega)
   have hOr := hid (own_chg hO13.out hchg (fun j hj e => by have := hO1o.out j hj; have := hgOh.out; have h2 : j = gO := e; omega))
   obtain ⟨g, o, rfl, -, hgl, d0, d1, d2, d3⟩ := ClsRow.four (RowAt.of_own hOr.out) hNF.out.symm hkn
   have hdm := Nat.le_trans (RowAt.of_own hOr.out).le (RowAt.of_own hOr.out).max
   obtain ⟨y, hyd⟩ : ∃ y, y = (freqL xs least).getD k 0 := ⟨_, rfl⟩
   rw [← hyd] at d0 d1 d2 d3
   replace hyd := hid hyd
   have hZ := hid (Blk.new wr #[.int .u64 0, .int .u64 0, .int .u64 0, .int .u64 0] 84)
   have hLr := hid (hX3.out.chg hchg (fun e => absurd (show w.heap.size = gO from e) (by have := hlo.out; omega)))
   have hCr := hid hchg
   have hIrh := hid hIr
   clear hchg hIr
   go_wp2_with (with_reducible refine halt_op (.store 84 (.tmp 17) (.tmp 48)) ?_)
   unfold Halted
   refine store_blk rfl 84 (.tmp 17) (.tmp 48) (by rfl) _ (by rfl) _ (by rfl) hZ.out (by rfl) (by exact sizeCls) (by rfl) ?_
   intro w4 hB4 hc4
   have hcz := hid (((Chg.refl Nothing wr).alloc (.cells #[.int .u64 0, .int .u64 0, .int .u64 0, .int .u64 0] 84)).then hc4 (fun i hi h => absurd (show i = wr.heap.size from h) (by omega)))
   have hL4 := hid (hLr.out.chg hcz.out id)
   have hI4 := hid (hIrh.out.chg hcz.out id)
   have hC4 := hid (hCr.out.trans (Chg.up (S := One gO) hcz.out))
   obtain ⟨r0, r1, r2, r3, -, -, -, -, hlt1⟩ := CBox.at_ (show CBox w4 wr.heap.size y from hB4)
   have x0 := hL4.out.cell 0 (v := .slice A n c) rfl
   have x1 := hL4.out.cell 1 (v := .int .i64 K) rfl
   have hSe := hid (fun (m : Calm w4) => (⟨Calm.cell hL4.out.lt x0 m, Calm.cell hL4.out.lt x1 m, Calm.cell hlt1 r0 m, Calm.cell hlt1 r1 m, Calm.cell hlt1 r2 m, Calm.cell hlt1 r3 m⟩ : m.val.cell? ⟨w.heap.size, 0, none⟩ = some (.slice A n c) ∧ m.val.cell? ⟨w.heap.size, 1, none⟩ = some (.int .i64 K) ∧ m.val.cell? ⟨wr.heap.size, 0, none⟩ = some (.int .u64 (wd y 0)) ∧ m.val.cell? ⟨wr.heap.size, 1, none⟩ = some (.int .u64 (wd y 1)) ∧ m.val.cell? ⟨wr.heap.size, 2, none⟩ = some (.int .u64 (wd y 2)) ∧ m.val.cell? ⟨wr.heap.size, 3, none⟩ = some (.int .u64 (wd y 3))))
   have hPl := hid (fun (w' : World) (hc : Chg Nothing w4 w') => places_any _ A n c xs K y w' (HH.out _ (Chg.trans (hCw.out _ hC4.out) hc)) hlh.out (by omega))
   have hMk := hid (fun (w' : World) => marks_any y s w' (by omega))
   have hCo := hid (fun (w' : World) (gP gM : Nat) (hP : FBlk w' gP n (placeF xs y) 82) (hM : FBlk w' gM s.size (markF y s) 82) => corrKind xs y s size gP gM w' n hlh.out h1 h64 hs hbad hP hM)
   rw [← hN.out, ← hcs.out] at hCo
   have hd0 := hid ((Chg.refl Nothing w4).drew)
   clear hB4 hc4 hZ d0 d1 d2 d3 x0 x1 r0 r1 r2 r3 hLr hCr hOr hIrh
   go_wp2_with fail
   go_region_held3 (fun w' => w'.cell? ⟨w.heap.size, 0, none⟩ = some (.slice A n c) ∧ w'.cell? ⟨w.heap.size, 1, none⟩ = some (.int .i64 K) ∧ w'.cell? ⟨wr.heap.size, 0, none⟩ = some (.int .u64 (wd y 0)) ∧ w'.cell? ⟨wr.heap.size, 1, none⟩ = some (.int .u64 (wd y 1)) ∧ w'.cell? ⟨wr.heap.size, 2, none⟩ = some (.int .u64 (wd y 2)) ∧ w'.cell? ⟨wr.heap.size, 3, none⟩ = some (.int .u64 (wd y 3)))
    (first | exact hSe.out ⟨_, hd0.out⟩ | exact hSe.out ⟨_, hcP.out⟩ | exact hSe.out ⟨_, hcM.out⟩ | exact hSe.out ⟨_, hcQ.out⟩)
    (first
    | (go_at_call 151; with_reducible refine (hPl.out _ (by first | exact hcM.out | exact hd0.out)).mono ?_; rintro e wP ⟨gP, hgP, rfl, hBP, hcP0⟩; have hcP := hid (Chg.trans (by first | exact hcM.out | exact hd0.out) hcP0); replace hBP := hid hBP; replace hcP0 := hid hcP0)
    | (go_at_call 152; with_reducible refine (hMk.out _).mono ?_; rintro e wM ⟨gM, hgM, rfl, hBM, hcM0⟩; have hcM := hid (Chg.trans (by first | exact hcP.out | exact hd0.out) hcM0); replace hBM := hid hBM; replace hcM0 := hid hcM0)
    | (go_at_call 150; with_reducible refine (hCo.out _ _ _ (by first | exact hBP.out | exact hBP.out.chg hcM0.out id) (by first | exact hBM.out | exact hBM.out.chg hcP0.out id)).mono ?_; rintro e wQ ⟨A', c', rfl, hU0, hcQ0⟩; have hcQ := hid (Chg.trans (by first | exact hcP.out | exact hcM.out) hcQ0); replace hU0 := hid hU0; replace hcQ0 := hid hcQ0))
   all_goals
    have hCq := hid (hC4.out.trans (Chg.up (S := One gO) hcQ.out))
    have hIq := hid (hI4.out.chg hcQ.out id)
    have hUq := hid (show URow wQ (gO + 1) A' N c' (fHit xs s least k) from by
     unfold fHit
     rw [← hyd.out, hlh.out]
     refine own_low hU0.out ?_
     have h3 := hI3h.out.lt
     first
     | exact Nat.lt_of_lt_of_le h3 (Nat.le_trans hC4.out.size hcM.out.size)
     | exact Nat.lt_of_lt_of_le h3 (Nat.le_trans hC4.out.size hcP.out.size))
    have hle9 := URow.nc hUq.out
    have hkv := hid (fun i => fHit_bound xs s least k i h64x.out)
    have hks := hid (fun i => fSum_bound xs s least i h64x.out k)
    have hkr := hid (fun i => rareN_bound xs (rareL xs least) s i)
    obtain ⟨f, hf⟩ : ∃ f : Nat → Int, f = fun i => rareN xs (rareL xs least) s i + fSum xs s least k i := ⟨_, rfl⟩
    rw [← hf] at hIq
    have hfb := hid (fun i => show 0 ≤ f i ∧ f i ≤ 64 + 64 * 64 from by
     rw [hf]
     have h1 := hks.out i
     have h2 := hkr.out i
     have h3 := h64x.out
     show 0 ≤ rareN xs (rareL xs least) s i + fSum xs s least k i ∧ rareN xs (rareL xs least) s i + fSum xs s least k i ≤ 64 + 64 * 64
     omega)
    have hfn := hid (fun q => show f q + fHit xs s least k q = rareN xs (rareL xs least) s q + fSum xs s least (k + 1) q from by rw [hf, fSum_succ]; exact Int.add_assoc _ _ _)
    obtain ⟨v, hv⟩ : ∃ v, v = fHit xs s least k := ⟨_, rfl⟩
    rw [← hv] at hUq hfn hkv
    replace hf := hid hf
    replace hv := hid hv
    have halb := al_bound k cs hcb.1 hcb.2 (by omega)
    rw [← hal.out] at halb
    have hal2 := hid (show al + cs = ((k + 1 : Nat) : Int) * cs from by rw [hal.out, show ((k + 1 : Nat) : Int) = (k : Int) + 1 from by omega, Int.add_mul, Int.one_mul])
    obtain ⟨al', hal'⟩ : ∃ al', al' = al + cs := ⟨_, rfl⟩
    have haw : IntKind.i64.wrap (al + cs) = al' := by rw [IntKind.wrap_i64]; omega
    rw [← hal'] at hal2
    clear hal' hks hkr halb
    go_wp2_with fail
    rename_i wr0
    go_loopw [66] (fun iv wr => ScB wQ gO N f (fun q => f q + v q) iv wr) (fun iv _ => N - (intOf iv).toNat)
    case atStart => exact ⟨0, Nat.zero_le _, rfl, hIq.out.congr (fun q _ => by rw [if_neg (by omega)]), Chg.refl _ _⟩
    case round =>
     obtain ⟨i, hi, rfl, hOi, hcr⟩ := hrel
     rcases Nat.lt_or_ge i N with hin | hin
     ·have hi0 : (0 : Int) ≤ (i : Int) := by omega
      have hiI : (i : Int) < (N : Int) := by omega
      have hUr := own_chg hUq.out hcr (fun j hj e => by
       have h1 := (own_of hUq.out j hj).1
       have h2 : j = gO := e
       omega)
      obtain ⟨gx, ox, rfl, hgx, xx⟩ := URow.at_ hUr hin
      have o0 := hOi.cell hin
      have o1 := hOi.free i
      have ol := hOi.lt
      rw [if_neg (by omega)] at o0
      have hvi := hkv.out i
      have hfi := hfb.out i
      have hst4 := hid ((hOi.set i (f i + v i)).congr (f' := fun q => if q < i + 1 then f q + v q else f q) (fun q hq => scb_step (v := fun q => f q + v q) q hq))
      have hC5 := hid (hcr.setOne i (.int .i64 (f i + v i)))
      obtain ⟨fi, hfd⟩ : ∃ fi, fi = f i := ⟨_, rfl⟩
      obtain ⟨vi, hvd⟩ : ∃ vi, vi = v i := ⟨_, rfl⟩
      rw [← hfd] at o0 hfi hst4 hC5
      rw [← hvd] at xx hvi hst4 hC5
      have hw1 : IntKind.i64.wrap (fi + vi) = fi + vi := by rw [IntKind.wrap_i64]; omega
      have hw2 : IntKind.i64.wrap vi = vi := by rw [IntKind.wrap_i64]; omega
      clear hUr hOi hcr hfd hvd
      go_wp2
      go_roundw
      case rel => exact ⟨i + 1, hin, by go_num, hst4.out, hC5.out⟩
      case measure => simp [intOf]; omega
     ·obtain rfl : N = i := by omega
      have hd : decide ((N : Int) < (N : Int)) = false := decide_eq_false (by omega)
      have hI9 := hid (hOi.congr (f' := fun i => rareN xs (rareL xs least) s i + fSum xs s least (k + 1) i) (fun q hq => by rw [if_pos hq]; exact hfn.out q))
      have hC9 := hid (hCq.out.trans hcr)
      clear hOi hcr
      go_wp2
      go_roundw
      case rel => exact ⟨k + 1, al', hkn, by go_num, rfl, hal2, hI9.out, hC9.out⟩
      case measure => simp [intOf]; omega
  ·obtain rfl : NF = k := by omega
   have hd : decide ((NF : Int) < (NF : Int)) = false := decide_eq_false (by omega)
   obtain ⟨V, hV⟩ : ∃ V : Nat → Int, V = fun i => rareN xs (rareL xs least) s i + fSum xs s least NF i := ⟨_, rfl⟩
   rw [← hV] at hIr
   obtain ⟨B, hB⟩ : ∃ B, B = boundN xs := ⟨_, rfl⟩
   have hVm := hid (fun i => show B - V i = missN xs s i from by rw [hV, hB]; have := fSum_all xs s least i; rw [← hNF.out] at this; exact this)
   have hVb := hid (fun i => show 0 ≤ V i ∧ V i ≤ 10000 from by
    have h1 := fSum_bound xs s least i h64x.out NF
    have h2 := rareN_bound xs (rareL xs least) s i
    have h3 := h64x.out
    rw [hV]
    show 0 ≤ rareN xs (rareL xs least) s i + fSum xs s least NF i ∧ rareN xs (rareL xs least) s i + fSum xs s least NF i ≤ 10000
    omega)
   have hBb : 0 ≤ B ∧ B ≤ 64 := by have := boundN_bound xs; have := h64x.out; omega
   have hBd := hid (fun (w' : World) (hc : Chg Nothing w w') => leafBound_any F A n c xs K w' (HH.out w' hc) hlh.out (by omega))
   rw [← hB] at hBd
   have hL5 := hid (hX3.out.chg hchg (fun e => absurd (show w.heap.size = gO from e) (by have := hlo.out; omega)))
   have hC5 := hid hchg
   have hI5 := hid hIr
   replace hV := hid hV
   replace hB := hid hB
   clear hIr hchg
   generalize wr = wo at *
   go_wp2_with fail
   go_loopw [83] (fun iv wr => ScB wo gO N V (missN xs s) iv wr) (fun iv _ => N - (intOf iv).toNat)
   case atStart => exact ⟨0, Nat.zero_le _, rfl, hI5.out.congr (fun q _ => by rw [if_neg (by omega)]), Chg.refl _ _⟩
   case round =>
    obtain ⟨i, hi, rfl, hOr, hcr⟩ := hrel
    have hXr := hL5.out.chg hcr (fun e => absurd (show w.heap.size = gO from e) (by have := hlo.out; omega))
    rcases Nat.lt_or_ge i N with hin | hin
    ·have hi0 : (0 : Int) ≤ (i : Int) := by omega
     have hiI : (i : Int) < (N : Int) := by omega
     have hC6 := hid (hCw.out _ (hC5.out.trans hcr))
     have hd0 := hid ((Chg.refl Nothing wr).drew)
     have hBd2 := hid (fun (w' : World) (hc : Chg Nothing wr w') => hBd.out w' (hC6.out.trans hc))
     have hOrh := hid hOr
     have hCr := hid hcr
     have hS := hid (fun (m : World) (hc : Chg (One gO) wr m) => (⟨(hXr.chg hc (fun e => absurd (show w.heap.size = gO from e) (by have := hlo.out; omega))).cell 0 rfl, (hXr.chg hc (fun e => absurd (show w.heap.size = gO from e) (by have := hlo.out; omega))).cell 1 rfl⟩ : m.cell? ⟨w.heap.size, 0, none⟩ = some (.slice A n c) ∧ m.cell? ⟨w.heap.size, 1, none⟩ = some (.int .i64 K)))
     have hd1 := hid (Chg.up (S := One gO) hd0.out)
     have p0 := (hOr.chg hd0.out id).cell hin
     rw [if_neg (by omega)] at p0
     have hvi := hVb.out i
     have hmi := hVm.out i
     obtain ⟨vi, hvd⟩ : ∃ vi, vi = V i := ⟨_, rfl⟩
     obtain ⟨mi, hmd⟩ : ∃ mi, mi = missN xs s i := ⟨_, rfl⟩
     rw [← hvd] at p0 hvi hmi
     rw [← hmd] at hmi
     have hwv : IntKind.i64.wrap (B - vi) = mi := by rw [IntKind.wrap_i64]; omega
     have hvd2 := hid hvd
     replace hmd := hid hmd
     clear hXr hOr hcr hvd hmi hvi
     go_wp2_with fail
     obtain ⟨k0, k1⟩ := hS.out _ (Chg.refl _ _)
     have l0 := hOrh.out.cell hin
     rw [if_neg (by omega), ← hvd2.out] at l0
     go_region_with (first
      | (go_at_call 145; with_reducible refine (hBd2.out _ hd0.out).mono ?_; rintro e w5 ⟨rfl, hc5⟩; replace hc5 := hid (hd0.out.trans hc5); have hc6 := hid (Chg.up (S := One gO) hc5.out); obtain ⟨m0, m1⟩ := hS.out _ hc6.out; have hO5' := hOrh.out.chg hc5.out id; have z5 := hO5'.cell hin; rw [if_neg (by omega), ← hvd2.out] at z5; have f5 := hO5'.free i; have l5 := hO5'.lt; clear hO5'))
     all_goals
      have hO5 := hid (((hOrh.out.chg hc5.out id).set i mi).congr (f' := fun q => if q < i + 1 then missN xs s q else V q) (fun q hq => by rw [hmd.out]; exact scb_step (v := missN xs s) q hq))
      have hC7 := hid (hCr.out.trans ((Chg.up (S := One gO) hc5.out).trans ((Chg.refl (One gO) w5).setOne i (.int .i64 mi))))
      go_wp2
      go_roundw
      case rel => exact ⟨i + 1, hin, by go_num, hO5.out, hC7.out⟩
      case measure => simp [intOf]; omega
    ·obtain rfl : N = i := by omega
     have hd : decide ((N : Int) < (N : Int)) = false := decide_eq_false (by omega)
     have hI9 := hid (hOr.congr (f' := missN xs s) (fun q hq => by rw [if_pos hq]))
     have hC9 := hid (hCw.out _ (hC5.out.trans hcr))
     clear hOr hcr hXr
     go_wp2
     go_ret3
     have hlen : (countsL xs s).length = N := by rw [hcl.out]; simp
     refine ⟨⟨some ⟨gO, 0, none⟩, N, by rw [hlen, hal.out]; rfl, ?_⟩, hC9.out⟩
     rw [hlen, hcl.out]
     exact IBlk.own hI9.out (Nat.le_of_lt hlo.out) (by omega)
theorem y12_len (xs : List Cls) (K : Int) (s : ByteArray) (size least : Int) : (y12 xs K s size least).length ≤ s.size + 1 := by
 unfold y12; split
 ·unfold countsL; simp
 ·simp
def f12 (xs : List Cls) (K : Int) (s : ByteArray) (size least : Int) : List Int := hitsTo (y12 xs K s size least) K (y12 xs K s size least).length
theorem splitCounts_any (F : Nat → Prop) (A : Option Addr) (n c : Nat) (xs : List Cls) (K : Int) (s : ByteArray) (size least : Int) (w : World) (H : ClsRow F w A n c xs) (hl : xs.length = n) (hn9 : n ≤ 1000000000) (hs : s.size ≤ 100000000) :
  Calls Tryz.prog 122 #[.agg #[.slice A n c, .int .i64 K], .string s, .int .i64 size, .int .i64 least] w fun e w' => GivesSym w.heap.size w' e (y12 xs K s size least) (n12 xs K s size least) (e12 xs K s.size size least) ∧ Chg Nothing w w' := by
 by_cases hE : e12 xs K s.size size least = 0
 ·have hY : y12 xs K s size least = countsL xs s := by unfold y12; rw [if_pos hE]
  have hN : n12 xs K s size least = ((freqL xs least).length : Int) * countS n s.size size := by unfold n12; rw [if_pos hE, hl]
  rw [hY, hN, hE]
  exact splitCounts_ok F A n c xs K s size least w H hl hs hE
 ·exact splitCounts_bad F A n c xs K s size least w H hl hn9 hE
theorem splitFind_any (F : Nat → Prop) (A : Option Addr) (n c : Nat) (xs : List Cls) (K : Int) (s : ByteArray) (size least : Int) (w : World) (H : ClsRow F w A n c xs) (hl : xs.length = n) (hn9 : n ≤ 1000000000) (hs : s.size ≤ 100000000) :
  Calls Tryz.prog 120 #[.agg #[.slice A n c, .int .i64 K], .string s, .int .i64 size, .int .i64 least] w fun e w' => GivesSym w.heap.size w' e (f12 xs K s size least) (n12 xs K s size least) (e12 xs K s.size size least) ∧ Chg Nothing w w' := by
 have hX := Blk.new w #[.slice A n c, .int .i64 K] 34
 have x0 := hX.cell 0 (v := .slice A n c) rfl
 have x1 := hX.cell 1 (v := .int .i64 K) rfl
 have hlx := hX.lt
 have hw0 := hid ((Chg.refl Nothing w).alloc (.cells #[.slice A n c, .int .i64 K] 34))
 have hCo := hid (splitCounts_any F A n c xs K s size least (w.alloc (.cells #[.slice A n c, .int .i64 K] 34)) (H.chg hw0.out (fun _ _ _ h => h)) hl hn9 hs)
 have hyl := y12_len xs K s size least
 have hEF := hid (fun (h : ¬ e12 xs K s.size size least = 0) => (show y12 xs K s size least = [] ∧ n12 xs K s size least = 0 from by unfold y12 n12; rw [if_neg h, if_neg h]; exact ⟨rfl, rfl⟩))
 unfold f12
 clear hX hl H
 generalize y12 xs K s size least = ys at *
 generalize n12 xs K s size least = num at *
 generalize e12 xs K s.size size least = E at *
 by_cases hE : E = 0
 ·subst hE
  go_enter Tryz.func120, Tryz.ntmps120
  go_wp2_with fail
  refine hCo.out.mono ?_
  rintro e w1 ⟨⟨A1, c1, rfl, hO1⟩, hc1⟩
  have y0 := (hc1.cells.1 _ _ hlx).trans x0
  have y1 := (hc1.cells.1 _ _ hlx).trans x1
  have hC1 := hid (hw0.out.trans hc1)
  have hHi := hid (hits_M ys K A1 c1 w1 _ hO1 (by omega))
  clear x0 x1 hlx hc1 hO1
  go_wp2_with fail
  refine hHi.out.mono ?_
  rintro e w2 ⟨A2, c2, rfl, hO2, hc2⟩
  have hC2 := hid (hC1.out.trans hc2)
  have hb := hid hC1.out.size
  replace hO2 := hid hO2
  clear hc2 y0 y1
  go_wp2
  go_ret3
  exact ⟨⟨A2, c2, rfl, own_low hO2.out hb.out⟩, hC2.out⟩
 ·obtain ⟨rfl, rfl⟩ := hEF.out hE
  have hEb : (E == 0) = false := beq_eq_false_iff_ne.2 hE
  go_enter Tryz.func120, Tryz.ntmps120
  go_wp2_with fail
  refine hCo.out.mono ?_
  rintro e w1 ⟨⟨A1, c1, rfl, hO1⟩, hc1⟩
  have hC1 := hid (hw0.out.trans hc1)
  clear hc1 hO1
  go_wp2
  go_ret3
  exact ⟨⟨none, 0, rfl, World.ownsRow_nil _ _ _ _⟩, hC1.out⟩
end Go.Proofs.YtoelilejohfglaaGreat
