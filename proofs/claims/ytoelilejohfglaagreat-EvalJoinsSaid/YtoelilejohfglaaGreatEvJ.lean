/- Layer 18: the walk of EvalJoins. -/
import Derived.Test.YtoelilejohfglaaGreatBnEw
import Derived.Test.YtoelilejohfglaaGreatOpenR
set_option maxHeartbeats 16000000
set_option maxRecDepth 100000
namespace Go.Proofs.YtoelilejohfglaaGreat
open Go.RowKit
set_option linter.unusedVariables false
set_option linter.unusedSimpArgs false
theorem sumR_few {B : Nat} : ∀ (rs : List RP), (∀ q ∈ rs, q.xs.length ≤ B) → sumR (rs.map RP.xs) ≤ rs.length * B := by
 intro rs
 induction rs with
 | nil => intro _; simp [sumR]
 | cons r rs ih =>
  intro h
  have h1 := ih (fun q hq => h q (by simp [hq]))
  have h2 := h r (by simp)
  rw [List.map_cons, sumR_cons, List.length_cons, Nat.succ_mul]
  omega
def GvInv (w1 : World) (m : Nat) (qs : List RP) (gv iv : Value) (wr : World) : Prop :=
 ∃ (k : Nat) (X : Option Addr) (cx : Nat) (rs : List RP) (G : Nat → Prop), k ≤ m ∧ rs.length = k ∧ iv = .int .i64 k ∧ gv = .slice X rs.length cx ∧ Hid (rs.map RP.xs = (qs.take k).map RP.xs) ∧ Hid (∀ q ∈ rs, q.xs.length ≤ 100) ∧ Hid (FS w1.heap.size X cx rs G wr) ∧ Chg Nothing w1 wr
def PjInv (w1 : World) (m : Nat) (iv : Value) (wr : World) : Prop := ∃ k : Nat, k ≤ m ∧ iv = .int .i64 k ∧ Chg Nothing w1 wr
theorem rjoinFlat {f : FuncId} {args : Array Value} {N : Int} {L : List Nd} {fs : List (List Int)} {w : World} (h : Calls Tryz.prog f args w (RJoinAns N L fs w)) : Calls Tryz.prog f args w fun e w' => ∃ A c, e = .returned (.tuple #[.slice A (joinL N L fs).length c, .bool (joinB L fs)]) ∧ Rd18 w' A c (joinL N L fs) ∧ Chg Nothing w w' := h
theorem EvalJoins_walk (A : Option Addr) (n c : Nat) (ps : List NP) (FA : Option Addr) (m fc : Nat) (qs : List RP) (N : Int) (w : World) (H : NRow (fun k => k < w.heap.size) w A n c ps) (hl : ∀ p ∈ ps, p.l * 32 ≤ 140737488351232) (hn : n * 48 ≤ 140737488351232) (R : RRow (fun k => k < w.heap.size) (fun k => k < w.heap.size) w FA m fc qs) (hz : ∀ q ∈ qs, q.l * 8 ≤ 140737488351232 ∧ ∀ z ∈ q.xs, -9223372036854775808 ≤ z ∧ z ≤ 9223372036854775807) (hm : m * 24 ≤ 140737488351232) (hN1 : -9223372036854775808 ≤ N) (hN2 : N ≤ 9223372036854775807) :
  Calls Tryz.prog 5 #[.slice A n c, .slice FA m fc, .int .i64 N] w fun e w' => e = .returned (.bool true) ∧ Chg Nothing w w' := by
 have hHH := hid (fun (w' : World) (hc : Chg Nothing w w') => H.calm hc)
 have hRR := hid (fun (w' : World) (hc : Chg Nothing w w') => R.calm hc)
 have hFw := hid (fun (w' : World) (hc : Chg Nothing w w') => few18_any _ A n c ps ⟨#[]⟩ w' (hHH.out w' hc))
 have hmq := hid R.row.2.2.2.1
 have hle := R.row.2.1
 have hmx := R.row.2.2.1
 have hzh := hid hz
 clear H R hl hz
 by_cases hm9 : m ≤ 100
 ·by_cases hN9 : N ≤ 1000
  ·have em : decide ((100 : Int) < (m : Int)) = false := decide_eq_false (by omega)
   have eN : decide ((1000 : Int) < N) = false := decide_eq_false (by omega)
   go_enter Tryz.func5, Tryz.ntmps5
   go_wp2_with fail
   refine (hFw.out _ (Chg.refl _ _)).mono ?_
   rintro e w1 ⟨b, rfl, hb, hc1⟩
   have hC := hid hc1
   clear hc1
   cases b with
   | false =>
    go_wp2_with fail
    refine (alive18 _).mono ?_
    rintro e w2 ⟨rfl, hc2⟩
    have hD := hid (hC.out.trans hc2)
    clear hc2
    go_wp2
    go_ret
    exact ⟨rfl, hD.out⟩
   | true =>
    obtain ⟨hn9, -⟩ := hb.out rfl
    go_wp2_with fail
    go_loopw [7, 30] (fun gv iv wr => GvInv w1 m qs gv iv wr) (fun _ iv _ => m - (intOf iv).toNat)
    case atStart => exact ⟨0, none, 0, [], fun _ => False, Nat.zero_le _, rfl, rfl, rfl, hid rfl, (show Hid (∀ q ∈ ([] : List RP), q.xs.length ≤ 100) from fun q hq => by cases hq), hid (FS.nil _ _), Chg.refl _ _⟩
    case round =>
     obtain ⟨k, X, cx, rs, G, hk, hrk, rfl, rfl, hmap, hfew, hFS, hchg2⟩ := hrel
     have hCr := hid hchg2
     clear hchg2
     rcases Nat.lt_or_ge k m with hkn | hkn
     ·have hRk := hRR.out _ (hC.out.trans hCr.out)
      obtain ⟨g, o, rfl, -, hgl, c0⟩ := hRk.row.at_ (k := k) hkn
      have hmem : qs.getD k rp0 ∈ qs := by
       have : k < qs.length := by rw [hmq.out]; exact hkn
       simp [this]
      have hq := hRk.els _ hmem
      have htk := hid (show (qs.take (k + 1)).map RP.xs = (qs.take k).map RP.xs ++ [(qs.getD k rp0).xs] from by
       rw [List.take_succ_eq_append_getElem (by rw [hmq.out]; exact hkn), List.map_append]
       simp [show k < qs.length from by rw [hmq.out]; exact hkn])
      generalize qs.getD k rp0 = q at c0 hq htk
      unfold rpV at c0
      unfold RIn at hq
      have hql := hq.2.2.2.1
      have hqle := hq.2.1
      have hqmx := hq.2.2.1
      have hk0 : (0 : Int) ≤ (k : Int) := by omega
      have hkn' : (k : Int) < (m : Int) := by omega
      have hrl : rs.length ≤ 100 := by omega
      have hqh := hid hq
      replace hrk := hid hrk
      clear hq hmem
      by_cases hq9 : q.l ≤ 100
      ·have eq : decide ((100 : Int) < (q.l : Int)) = false := decide_eq_false (by omega)
       have hql2 := hid hql
       have hqd := ElsAt.chg hqh.out ((Chg.refl Nothing wr).alloc (.cells #[] 3)) (fun _ _ _ h => h)
       have hqdh := hid hqd
       clear hql hqd
       go_wp2_with (at_builtin; refine append_gen rfl _ _ 37 rfl wr.heap.size 3 (.int .i64 0) 1 8 Tryz.underlying37 infoI18 rfl (by decide) _ 0 0 [] rfl (World.ownsRow_made wr #[] 0 (Nat.le_refl _) (by unfold maxLen; omega) rfl) q.A q.l q.c (q.xs.map (Value.int .i64)) rfl ?_ ?_ ?_ ?_ (nums_one _ _) ?_ ?_ ?_ ?_)
       ·rw [List.length_map, hql2.out]; omega
       ·exact hqdh.out.1
       ·exact hqdh.out.2.1
       ·exact hqdh.out.cells'
       ·unfold maxLen; omega
       ·omega
       ·rw [World.size_alloc]; exact Nat.le_succ _
       intro A4 c4 w4 hO4 hc4
       intros
       have hca : Chg Nothing wr w4 := ((Chg.refl Nothing wr).alloc (.cells #[] 3)).then hc4 (fun k hk ⟨a, e, hk'⟩ => by injection e with e; subst e; simp only at hk'; omega)
       obtain ⟨hF4, hr4⟩ := hFS.out.fresh (r := ⟨q.xs, A4, q.l, c4⟩) hca hO4
       have hF4h := hid hF4
       have hr4h := hid hr4
       have hC4 := hid (hCr.out.trans hca)
       have hs4 := hid hC4.out.size
       clear hc4 hca hO4 hF4 hr4 c0
       go_wp2_with (at_builtin; refine append_one rfl _ _ 43 rfl w1.heap.size 37 (.slice none 0 0) 24 Tryz.underlying43 infoRR rfl X cx rs.length _ rfl hF4h.out.own (.slice A4 q.l c4) rfl rfl ?_ ?_ ?_ ?_)
       ·omega
       ·omega
       ·exact hs4.out
       intro A8 c8 w8 hO8 hc8 hA8
       have hPu := hid (hF4h.out.push hr4h.out hO8 hc8 hA8)
       have hC8 := hid (Chg.then hC4.out hc8 (fun j hj e => absurd (own_of hF4h.out.own j e).1 (by omega)))
       have hwk : IntKind.i64.wrap ((k : Int) + 1) = (k : Int) + 1 := by rw [IntKind.wrap_i64]; omega
       have hfew2 := hid (show ∀ p ∈ rs ++ [⟨q.xs, A4, q.l, c4⟩], p.xs.length ≤ 100 from fun p hp => by
        rcases List.mem_append.1 hp with hp | hp
        ·exact hfew.out p hp
        ·simp at hp; subst hp; show q.xs.length ≤ 100; rw [hql2.out]; exact hq9)
       clear hO8 hc8 hA8
       go_wp2
       go_roundw
       case rel => exact ⟨k + 1, A8, c8, rs ++ [⟨q.xs, A4, q.l, c4⟩], _, hkn, by rw [List.length_append, hrk.out]; rfl, by go_num, by rw [List.length_append]; rfl, hid (by rw [List.map_append, htk.out, hmap.out]; rfl), hfew2, hPu, hC8.out⟩
       case measure => simp [intOf]; omega
      ·have eq : decide ((100 : Int) < (q.l : Int)) = true := decide_eq_true (by omega)
       go_wp2_with fail
       refine (alive18 _).mono ?_
       rintro e w5 ⟨rfl, hc5⟩
       have hD := hid ((hC.out.trans hCr.out).trans hc5)
       clear hc5
       go_wp2
       go_ret
       exact ⟨rfl, hD.out⟩
     ·obtain rfl : k = m := by omega
      have hd : decide ((k : Int) < (k : Int)) = false := decide_eq_false (by omega)
      rw [List.take_of_length_le (by rw [hmq.out]; exact Nat.le_refl _)] at hmap
      have hD := hid (hC.out.trans hCr.out)
      have hsum1 : sumR (rs.map RP.xs) ≤ 100000000000 := by
       have := sumR_few rs hfew.out
       have h2 : rs.length * 100 ≤ 100 * 100 := Nat.mul_le_mul_right _ (by omega)
       omega
      have hz1 : ∀ q ∈ qs, ∀ z ∈ q.xs, z ≤ 9223372036854775807 := fun q hq z hz => ((hzh.out q hq).2 z hz).2
      have hz2 : ∀ q ∈ rs, ∀ z ∈ q.xs, z ≤ 9223372036854775807 := fun q hq z hz => by
       have h1 : q.xs ∈ qs.map RP.xs := by rw [← hmap.out]; exact List.mem_map_of_mem hq
       obtain ⟨p, hp, e⟩ := List.mem_map.1 h1
       rw [← e] at hz
       exact hz1 p hp z hz
      have hJ1 := joinFlat (evalJoin_any _ _ _ A n c ps FA k fc qs N wr (hHH.out _ hD.out) (by omega) (hRR.out _ hD.out) (fun j hj => Nat.lt_of_lt_of_le hj hD.out.size) (by omega) hz1 (by rw [← hmap.out]; exact hsum1))
      have hJ2 := hid (fun (w' : World) (hc : Chg Nothing wr w') => rjoinFlat (refJoin18_any _ _ _ A n c ps X rs.length cx rs N w' (hHH.out _ (hD.out.trans hc)) (by omega) (hFS.out.calm hc).rows (by omega) hz2 hsum1))
      rw [hmap.out] at hJ2
      have hrgt := hid (joinL_right N (ps.map NP.x) (qs.map RP.xs))
      generalize joinL N (ps.map NP.x) (qs.map RP.xs) = V at hJ1 hJ2 hrgt
      generalize joinB (ps.map NP.x) (qs.map RP.xs) = jb at hJ1 hJ2
      have hJ1h := hid hJ1
      have hmaph := hid hmap
      replace hrk := hid hrk
      clear hJ1 hsum1 hz1 hz2 hmap
      go_wp2_with fail
      refine hJ1h.out.mono ?_
      rintro e w5 ⟨A5, c5, rfl, hO, hc5⟩
      have hO1 := hid (hO.els.mono (G := fun _ => True) (fun _ _ _ => trivial))
      have hE := hid hc5
      clear hc5 hO hJ1h
      go_wp2_with fail
      refine (hJ2.out _ hE.out).mono ?_
      rintro e w6 ⟨A6, c6, rfl, hO, hc6⟩
      have hO2 := hid (ElsAt.mono (G := fun _ => True) hO (fun _ _ _ => trivial))
      replace hO1 := hid (hO1.out.chg hc6 (fun _ _ _ h => h))
      replace hE := hid (hE.out.trans hc6)
      clear hc6 hO hJ2
      go_wp2_with fail
      go_loopw [61] (fun iv wr => PjInv w6 k iv wr) (fun iv _ => k - (intOf iv).toNat)
      case atStart => exact ⟨0, Nat.zero_le _, rfl, Chg.refl _ _⟩
      case round =>
       obtain ⟨i, hi, rfl, hchg3⟩ := hrel
       have hC3 := hid hchg3
       clear hchg3
       rcases Nat.lt_or_ge i k with hin | hin
       ·have hRk := hRR.out _ (hD.out.trans (hE.out.trans hC3.out))
        have hGk := (hFS.out.calm (hE.out.trans hC3.out)).rows
        obtain ⟨g, o, rfl, -, hgl, c0⟩ := hRk.row.at_ (k := i) hin
        obtain ⟨g2, o2, rfl, -, hgl2, d0⟩ := hGk.row.at_ (k := i) (by rw [hrk.out]; exact hin)
        have hm1 : qs.getD i rp0 ∈ qs := by
         have : i < qs.length := by rw [hmq.out]; exact hin
         simp [this]
        have hm2 : rs.getD i rp0 ∈ rs := by
         have : i < rs.length := by rw [hrk.out]; exact hin
         simp [this]
        have hq1 := hRk.els _ hm1
        have hq2 := hGk.els _ hm2
        have hxx : (rs.getD i rp0).xs = (qs.getD i rp0).xs := by
         have h1 : (rs.map RP.xs).getD i [] = (qs.map RP.xs).getD i [] := by rw [hmaph.out.out]
         simpa [show i < rs.length from by rw [hrk.out]; exact hin, show i < qs.length from by rw [hmq.out]; exact hin] using h1
        generalize qs.getD i rp0 = q1 at c0 hq1 hxx
        generalize rs.getD i rp0 = q2 at d0 hq2 hxx
        unfold RIn at hq1 hq2
        rw [hxx] at hq2
        unfold rpV at c0 d0
        have hP := hid (fun (w' : World) (hc : Chg Nothing wr w') => same_intsM (ElsAt.chg hq1 hc (fun _ _ _ h => h)) (ElsAt.chg hq2 hc (fun _ _ _ h => h)))
        have hi0 : (0 : Int) ≤ (i : Int) := by omega
        have hin' : (i : Int) < (k : Int) := by omega
        have hin2 : (i : Int) < (rs.length : Int) := by rw [hrk.out]; omega
        have hwk : IntKind.i64.wrap ((i : Int) + 1) = (i : Int) + 1 := by rw [IntKind.wrap_i64]; omega
        have zc0 := Calm.cell hgl c0
        have zd0 := Calm.cell hgl2 d0
        clear hq1 hq2 hm1 hm2 hRk hGk hxx
        go_wp2_with fail
        try simp only [List.append_eq, List.cons_append, List.nil_append]
        refine wp_region_calm_lit (by kernel_rfl) (by kernel_rfl) ?_
        repeat (go_big_quiet_step (((go_at_call 19; exact calm_of (hP.out _ (Calm.chg _))))))
        refine wpQuiet_nil ?_
        intro _ hw'
        obtain ⟨nq, hw''⟩ := hw'
        subst hw''
        have hC4 := hid (hC3.out.trans nq.chg)
        clear c0 d0 zc0 zd0
        go_wp2
        go_roundw
        case rel => exact ⟨i + 1, hin, by go_num, hC4.out⟩
        case measure => simp [intOf]; omega
       ·obtain rfl : i = k := by omega
        have hO1' := hid (hO1.out.chg hC3.out (fun _ _ _ h => h))
        have hO2' := hid (hO2.out.chg hC3.out (fun _ _ _ h => h))
        have hE3 := hid (hD.out.trans (hE.out.trans hC3.out))
        clear hO1 hO2
        go_wp2_with fail
        refine (alive18 _).mono ?_
        rintro e w7 ⟨rfl, hc7⟩
        have hO1 := hid (hO1'.out.chg hc7 (fun _ _ _ h => h))
        have hO2 := hid (hO2'.out.chg hc7 (fun _ _ _ h => h))
        have hE4 := hid (hE3.out.trans hc7)
        clear hc7 hO1' hO2'
        go_wp2_with fail
        refine (same_intsM hO1.out hO2.out).mono ?_
        rintro e w8 ⟨rfl, hc8⟩
        have hO3 := hid (hO1.out.chg hc8 (fun _ _ _ h => h))
        have hE5 := hid (hE4.out.trans hc8)
        clear hc8
        have hRg := hid (refRight_chg18 hO3.out)
        rw [hrgt.out] at hRg
        go_wp2_with fail
        refine hRg.out.mono ?_
        rintro e w9 ⟨rfl, hc9⟩
        have hE6 := hid (hE5.out.trans hc9)
        clear hc9
        go_wp2
        go_ret
        exact ⟨by simp, hE6.out⟩
  ·have em : decide ((100 : Int) < (m : Int)) = false := decide_eq_false (by omega)
   have eN : decide ((1000 : Int) < N) = true := decide_eq_true (by omega)
   go_enter Tryz.func5, Tryz.ntmps5
   go_wp2_with fail
   refine (hFw.out _ (Chg.refl _ _)).mono ?_
   rintro e w1 ⟨b, rfl, hb, hc1⟩
   have hC := hid hc1
   clear hc1
   cases b <;>
   ·go_wp2_with fail
    refine (alive18 _).mono ?_
    rintro e w2 ⟨rfl, hc2⟩
    have hD := hid (hC.out.trans hc2)
    clear hc2
    go_wp2
    go_ret
    exact ⟨rfl, hD.out⟩
 ·have em : decide ((100 : Int) < (m : Int)) = true := decide_eq_true (by omega)
  go_enter Tryz.func5, Tryz.ntmps5
  go_wp2_with fail
  refine (hFw.out _ (Chg.refl _ _)).mono ?_
  rintro e w1 ⟨b, rfl, hb, hc1⟩
  have hC := hid hc1
  clear hc1
  cases b <;>
  ·go_wp2_with fail
   refine (alive18 _).mono ?_
   rintro e w2 ⟨rfl, hc2⟩
   have hD := hid (hC.out.trans hc2)
   clear hc2
   go_wp2
   go_ret
   exact ⟨rfl, hD.out⟩
end Go.Proofs.YtoelilejohfglaaGreat
