/- Joined texts: CrtA CrtB BlkA BlkB Rnd BlkC CorB CorC. -/
import Derived.Test.YtoelilejohfglaaGreatBunP
import Derived.Laws.IdiomCopy
import Derived.Test.YtoelilejohfglaaGreatBunA
import Derived.OrdersIn
import Derived.RangeFuncNested
import Derived.RangeFuncBound
import Derived.RangeFuncCalls
import Derived.RangeFuncLeaves
import Derived.OwnWalkIn
import Derived.TacticsInMore
import Derived.LoopNIn
import Derived.LoopIn
import Derived.Shelf.Abstract
import Derived.Shelf.RegionOpen
set_option maxHeartbeats 16000000
set_option maxRecDepth 100000
namespace Go.Proofs.YtoelilejohfglaaGreat
open Go.RowKit
set_option linter.unusedVariables false
set_option linter.unusedSimpArgs false
def pP : Int := (prm 0 : Nat)
def pQ : Int := (prm 1 : Nat)
def pS : Int := (prm 2 : Nat)
theorem pP_eq : pP = 998244353 := rfl
theorem pQ_eq : pQ = 167772161 := rfl
theorem pS_eq : pS = 469762049 := rfl
def crtA : Int := pP ^ (prm 1 - 2) % pQ
def crtPQ : Int := pP * pQ % pS
def crtB : Int := crtPQ ^ (prm 2 - 2) % pS
theorem crt_facts : powM (prm 1) 30 (prm 0) (prm 1 - 1) = 1 ∧ powM (prm 2) 30 ((prm 0 : Nat) * (prm 1 : Nat) % (prm 2 : Nat)) (prm 2 - 1) = 1 := by decide +kernel
theorem crtA_cg : Cg pQ (pP * crtA) 1 := by
 refine inv_cg (q := prm 1) (by decide) (Cg.of_emod ?_)
 have h := crt_facts.1
 rw [powM_eq _ _ _ _ (by decide)] at h
 exact h
theorem crtB_cg : Cg pS (pP * pQ * crtB) 1 := by
 have h1 : Cg pS (crtPQ * crtB) 1 := by
  refine inv_cg (q := prm 2) (by decide) (Cg.of_emod ?_)
  have h := crt_facts.2
  rw [powM_eq _ _ _ _ (by decide)] at h
  exact h
 exact ((Cg.emod pS (pP * pQ)).symm.mul (Cg.refl _ _)).trans h1
theorem mixed_plain (N : Int) (hN : 0 ≤ N ∧ N < 18446744073709551616) :
  (((N % pQ - N % pP) % pQ * crtA) % pQ = N / pP % pQ) ∧ ((((N % pS - N % pP) % pS - (N / pP % pQ * pP) % pS) % pS * crtB) % pS = N / pP / pQ) := by
 obtain ⟨h1, h2⟩ := join_low N hN pP_eq pQ_eq pS_eq crtA_cg crtB_cg
 refine ⟨?_, ?_⟩
 ·rw [← h1]; exact ((Cg.emod pQ _).mul (Cg.refl _ _)).emod_eq
 ·rw [← h2]; exact (((Cg.emod pS _).trans ((Cg.emod pS _).sub (Cg.emod pS _))).mul (Cg.refl _ _)).emod_eq
theorem mixed_any (N : Int) (hN : 0 ≤ N ∧ N < 18446744073709551616) (w : World) :
  Calls Tryz.prog 203 #[.agg #[.int .u64 (N % pP), .int .u64 (N % pQ), .int .u64 (N % pS)]] w fun e w' => e = .returned (.agg #[.int .u64 (N % pP), .int .u64 (N / pP % pQ), .int .u64 (N / pP / pQ)]) ∧ Chg Nothing w w' := by
 obtain ⟨hmid, htop⟩ := mixed_plain N hN
 have m0 : 0 ≤ N % pP := (mod_prm 0 N).1
 have m1 : 0 ≤ N % pQ := (mod_prm 1 N).1
 have m2 : 0 ≤ N % pS := (mod_prm 2 N).1
 have hlow : N % pP % pP = N % pP := Int.emod_emod_of_dvd _ (Int.dvd_refl _)
 have p0 : 0 ≤ pP := by rw [pP_eq]; decide
 have q0 : 0 ≤ pQ := by rw [pQ_eq]; decide
 have mid0 : 0 ≤ N / pP % pQ := (mod_prm 1 _).1
 have cA0 : 0 ≤ crtA := (mod_prm 1 _).1
 have cB0 : 0 ≤ crtB := (mod_prm 2 _).1
 have pq0 : 0 ≤ crtPQ := (mod_prm 2 _).1
 have s10 : 0 ≤ (N % pQ - N % pP) % pQ := (mod_prm 1 _).1
 have s20 : 0 ≤ (N % pS - N % pP) % pS := (mod_prm 2 _).1
 have s30 : 0 ≤ (N / pP % pQ * pP) % pS := (mod_prm 2 _).1
 have s40 : 0 ≤ ((N % pS - N % pP) % pS - (N / pP % pQ * pP) % pS) % pS := (mod_prm 2 _).1
 have hP0 : Hid (∀ w, Calls Tryz.prog 199 #[.int .i64 0] w fun e w' => e = .returned (.int .u64 pP) ∧ Chg Nothing w w') := hid (fun w => resPrime_any 0 (by decide) w)
 have hP1 : Hid (∀ w, Calls Tryz.prog 199 #[.int .i64 1] w fun e w' => e = .returned (.int .u64 pQ) ∧ Chg Nothing w w') := hid (fun w => resPrime_any 1 (by decide) w)
 have hO : Hid (∀ w, Calls Tryz.prog 196 #[.int .i64 0, .int .u64 (N % pP)] w fun e w' => e = .returned (.int .u64 (N % pP)) ∧ Chg Nothing w w') := hid (fun w => by have := resOf_any 0 (by decide) (N % pP) w m0; rw [show N % pP % ((prm 0 : Nat) : Int) = N % pP from hlow] at this; exact this)
 have hI1 : Hid (∀ w, Calls Tryz.prog 197 #[.int .i64 1, .int .u64 pP] w fun e w' => e = .returned (.tuple #[.int .u64 crtA, .bool true]) ∧ Chg Nothing w w') := hid (fun w => resInv_any 1 (by decide) pP w p0 (by decide))
 have hM1 : Hid (∀ w, Calls Tryz.prog 183 #[.int .i64 2, .int .u64 pP, .int .u64 pQ] w fun e w' => e = .returned (.int .u64 crtPQ) ∧ Chg Nothing w w') := hid (fun w => resMul_any 2 (by decide) pP pQ w p0 q0)
 have hI2 : Hid (∀ w, Calls Tryz.prog 197 #[.int .i64 2, .int .u64 crtPQ] w fun e w' => e = .returned (.tuple #[.int .u64 crtB, .bool true]) ∧ Chg Nothing w w') := hid (fun w => resInv_any 2 (by decide) crtPQ w pq0 (by decide))
 have hS1 : Hid (∀ w, Calls Tryz.prog 205 #[.int .i64 1, .int .u64 (N % pQ), .int .u64 (N % pP)] w fun e w' => e = .returned (.int .u64 ((N % pQ - N % pP) % pQ)) ∧ Chg Nothing w w') := hid (fun w => resSub_any 1 (by decide) _ _ w m1 m0)
 have hM2 : Hid (∀ w, Calls Tryz.prog 183 #[.int .i64 1, .int .u64 ((N % pQ - N % pP) % pQ), .int .u64 crtA] w fun e w' => e = .returned (.int .u64 (N / pP % pQ)) ∧ Chg Nothing w w') := hid (fun w => by have := resMul_any 1 (by decide) _ _ w s10 cA0; rw [show (N % pQ - N % pP) % pQ * crtA % ((prm 1 : Nat) : Int) = N / pP % pQ from hmid] at this; exact this)
 have hS2 : Hid (∀ w, Calls Tryz.prog 205 #[.int .i64 2, .int .u64 (N % pS), .int .u64 (N % pP)] w fun e w' => e = .returned (.int .u64 ((N % pS - N % pP) % pS)) ∧ Chg Nothing w w') := hid (fun w => resSub_any 2 (by decide) _ _ w m2 m0)
 have hM3 : Hid (∀ w, Calls Tryz.prog 183 #[.int .i64 2, .int .u64 (N / pP % pQ), .int .u64 pP] w fun e w' => e = .returned (.int .u64 ((N / pP % pQ * pP) % pS)) ∧ Chg Nothing w w') := hid (fun w => resMul_any 2 (by decide) _ _ w mid0 p0)
 have hS3 : Hid (∀ w, Calls Tryz.prog 205 #[.int .i64 2, .int .u64 ((N % pS - N % pP) % pS), .int .u64 ((N / pP % pQ * pP) % pS)] w fun e w' => e = .returned (.int .u64 (((N % pS - N % pP) % pS - (N / pP % pQ * pP) % pS) % pS)) ∧ Chg Nothing w w') := hid (fun w => resSub_any 2 (by decide) _ _ w s20 s30)
 have hM4 : Hid (∀ w, Calls Tryz.prog 183 #[.int .i64 2, .int .u64 (((N % pS - N % pP) % pS - (N / pP % pQ * pP) % pS) % pS), .int .u64 crtB] w fun e w' => e = .returned (.int .u64 (N / pP / pQ)) ∧ Chg Nothing w w') := hid (fun w => by have := resMul_any 2 (by decide) _ _ w s40 cB0; rw [show ((N % pS - N % pP) % pS - (N / pP % pQ * pP) % pS) % pS * crtB % ((prm 2 : Nat) : Int) = N / pP / pQ from htop] at this; exact this)
 clear hmid htop hlow m0 m1 m2 p0 q0 mid0 cA0 cB0 pq0 s10 s20 s30 s40 hN
 generalize crtA = cA at *
 generalize crtPQ = pq at *
 generalize crtB = cB at *
 generalize ((N % pS - N % pP) % pS - (N / pP % pQ * pP) % pS) % pS = r3 at *
 generalize (N % pS - N % pP) % pS = r2 at *
 generalize (N % pQ - N % pP) % pQ = r1 at *
 generalize (N / pP % pQ * pP) % pS = t1 at *
 generalize N / pP % pQ = d1 at *
 generalize N / pP / pQ = d2 at *
 generalize N % pP = z0 at *
 generalize N % pQ = z1 at *
 generalize N % pS = z2 at *
 generalize pP = P at *
 generalize pQ = Q at *
 have hX := hid ((Blk.new w #[.int .u64 z0, .int .u64 z1, .int .u64 z2] 190).alloc (.cells #[.int .u64 0, .int .u64 0, .int .u64 0] 190))
 have hZ0 := Blk.new (w.alloc (.cells #[.int .u64 z0, .int .u64 z1, .int .u64 z2] 190)) #[.int .u64 0, .int .u64 0, .int .u64 0] 190
 rw [show (w.alloc (.cells #[.int .u64 z0, .int .u64 z1, .int .u64 z2] 190)).heap.size = w.heap.size + 1 from by rw [World.size_alloc]] at hZ0
 have hZ := hid hZ0
 clear hZ0
 have hC0 := hid (((Chg.refl Nothing w).alloc (.cells #[.int .u64 z0, .int .u64 z1, .int .u64 z2] 190)).alloc (.cells #[.int .u64 0, .int .u64 0, .int .u64 0] 190))
 go_enter Tryz.func203, Tryz.ntmps203
 go_wp2_with fail
 refine (hP0.out _).mono ?_
 rintro e w1 ⟨rfl, hc1⟩
 have hC1 := hid hc1
 clear hc1
 go_wp2_with fail
 refine (hP1.out _).mono ?_
 rintro e w2 ⟨rfl, hc2⟩
 have hC2 := hid (hC1.out.trans hc2)
 have x2 := (hX.out.chg hC2.out id).cell 0 rfl
 clear hc2
 go_wp2_with fail
 refine (hO.out _).mono ?_
 rintro e w3 ⟨rfl, hc3⟩
 have hC3 := hid (hC2.out.trans hc3)
 clear hc3
 go_wp2_with fail
 refine (hI1.out _).mono ?_
 rintro e w4 ⟨rfl, hc4⟩
 have hC4 := hid (hC3.out.trans hc4)
 have x4 := (hX.out.chg hC4.out id).cell 1 rfl
 clear hc4
 go_wp2_with fail
 refine (hS1.out _).mono ?_
 rintro e w5 ⟨rfl, hc5⟩
 have hC5 := hid (hC4.out.trans hc5)
 clear hc5
 go_wp2_with fail
 refine (hM2.out _).mono ?_
 rintro e w6 ⟨rfl, hc6⟩
 have hC6 := hid (hC5.out.trans hc6)
 clear hc6
 go_wp2_with fail
 refine (hM1.out _).mono ?_
 rintro e w7 ⟨rfl, hc7⟩
 have hC7 := hid (hC6.out.trans hc7)
 clear hc7
 go_wp2_with fail
 refine (hI2.out _).mono ?_
 rintro e w8 ⟨rfl, hc8⟩
 have hC8 := hid (hC7.out.trans hc8)
 have x8 := (hX.out.chg hC8.out id).cell 2 rfl
 clear hc8
 go_wp2_with fail
 refine (hS2.out _).mono ?_
 rintro e w9 ⟨rfl, hc9⟩
 have hC9 := hid (hC8.out.trans hc9)
 clear hc9
 go_wp2_with fail
 refine (hM3.out _).mono ?_
 rintro e v1 ⟨rfl, hd1⟩
 have hD1 := hid (hC9.out.trans hd1)
 clear hd1
 go_wp2_with fail
 refine (hS3.out _).mono ?_
 rintro e v2 ⟨rfl, hd2⟩
 have hD2 := hid (hD1.out.trans hd2)
 clear hd2
 go_wp2_with fail
 refine (hM4.out _).mono ?_
 rintro e v3 ⟨rfl, hd3⟩
 have hD3 := hid (hD2.out.trans hd3)
 clear hd3 x2 x4 x8 hC1 hC2 hC3 hC4 hC5 hC6 hC7 hC8 hC9 hD1 hD2
 have hZ3 := hZ.out.chg hD3.out id
 have f0 := hZ3.free 0
 have f1 := hZ3.free 1
 have f2 := hZ3.free 2
 have y0 := hZ3.cell 0 rfl
 have y1 := hZ3.cell 1 rfl
 have y2 := hZ3.cell 2 rfl
 have hl3 := hZ3.lt
 have hC := hid (((hC0.out.trans hD3.out).setNew (g := w.heap.size + 1) (by omega) 0 (.int .u64 z0)).setNew (g := w.heap.size + 1) (by omega) 1 (.int .u64 d1) |>.setNew (g := w.heap.size + 1) (by omega) 2 (.int .u64 d2))
 clear hZ3
 go_wp2
 refine bodyPost_ret (v := .agg #[.int .u64 z0, .int .u64 d1, .int .u64 d2]) ?_ rfl ⟨rfl, hC.out⟩
 simp [results, Tryz.results203, go_sem, y0, y1, y2]
theorem join_any (N : Int) (hN : 0 ≤ N ∧ N < 18446744073709551616) (w : World) :
  Calls Tryz.prog 198 #[.agg #[.int .u64 (N % pP), .int .u64 (N % pQ), .int .u64 (N % pS)]] w fun e w' => e = .returned (.tuple #[.int .u64 N, .bool true]) ∧ Chg Nothing w w' := by
 have hM := hid (fun w => mixed_any N hN w)
 have hP0 : Hid (∀ w, Calls Tryz.prog 199 #[.int .i64 0] w fun e w' => e = .returned (.int .u64 998244353) ∧ Chg Nothing w w') := hid (fun w => resPrime_any 0 (by decide) w)
 have hP1 : Hid (∀ w, Calls Tryz.prog 199 #[.int .i64 1] w fun e w' => e = .returned (.int .u64 167772161) ∧ Chg Nothing w w') := hid (fun w => resPrime_any 1 (by decide) w)
 obtain ⟨h1, h2⟩ := hN
 have e0 := Int.emod_add_mul_ediv N pP
 have e1 := Int.emod_add_mul_ediv (N / pP) pQ
 have a0 : 0 ≤ N % pP := (mod_prm 0 N).1
 have a1 : N % pP < 998244353 := (mod_prm 0 N).2.1
 have b0 : 0 ≤ N / pP % pQ := (mod_prm 1 _).1
 have b1 : N / pP % pQ < 167772161 := (mod_prm 1 _).2.1
 have c0 : 0 ≤ N / pP / pQ := Int.ediv_nonneg (Int.ediv_nonneg h1 (by decide)) (by decide)
 generalize N % pQ = z1 at *
 generalize N % pS = z2 at *
 generalize N / pP / pQ = c at *
 generalize N / pP % pQ = b at *
 generalize N / pP = q at *
 generalize N % pP = a at *
 rw [pP_eq] at e0
 rw [pQ_eq] at e1
 have hc2 : c ≤ 469762049 := by omega
 have hq : b + c * 167772161 ≤ (18446744073709551615 - a) / 998244353 := by omega
 have hqd : decide ((18446744073709551615 - a) / 998244353 < b + c * 167772161) = false := decide_eq_false (by omega)
 have hq9 : b + c * 167772161 ≤ 18479187003 := by omega
 have hfin : a + (b + c * 167772161) * 998244353 = N := by omega
 clear e0 e1
 go_enter Tryz.func198, Tryz.ntmps198
 go_wp2_with fail
 refine (hM.out _).mono ?_
 rintro e w1 ⟨rfl, hc1⟩
 have hC1 := hid (((Chg.refl Nothing w).alloc (.cells #[.int .u64 a, .int .u64 z1, .int .u64 z2] 190)).trans hc1)
 have hX := hid (Blk.new w1 #[.int .u64 a, .int .u64 b, .int .u64 c] 190)
 clear hc1
 go_wp2_with fail
 refine (hP0.out _).mono ?_
 rintro e w2 ⟨rfl, hc2⟩
 have hC2 := hid (hc2)
 clear hc2
 go_wp2_with fail
 refine (hP1.out _).mono ?_
 rintro e w3 ⟨rfl, hc3⟩
 have hC3 := hid (hC2.out.trans hc3)
 have hX3 := hX.out.chg hC3.out id
 have x0 := hX3.cell 0 (v := .int .u64 a) rfl
 have x1 := hX3.cell 1 (v := .int .u64 b) rfl
 have x2 := hX3.cell 2 (v := .int .u64 c) rfl
 clear hc3 hX3
 go_wp2
 go_ret2
 exact ⟨rfl, (hC1.out.alloc _).trans hC3.out⟩
abbrev URow (w : World) (base : Nat) (A : Option Addr) (n c : Nat) (f : Nat → Int) : Prop := w.ownsRow base 82 1 (.slice A n c) n ((List.range n).map fun i => .int .u64 (f i))
theorem urow_succ (k : Nat) (f : Nat → Int) : ((List.range k).map fun i => Value.int .u64 (f i)) ++ [Value.int .u64 (f k)] = (List.range (k + 1)).map fun i => Value.int .u64 (f i) := by simp [List.range_succ]
def RwsInv (w : World) (n : Nat) (N : Nat → Int) (ov iv : Value) (wr : World) : Prop := ∃ (k : Nat) (A : Option Addr) (c : Nat), k ≤ n ∧ iv = .int .i64 k ∧ ov = .slice A k c ∧ URow wr w.heap.size A k c N ∧ Chg Nothing w wr
theorem rows_any (F G H : Nat → Prop) (A B C : Option Addr) (n ca cb cc : Nat) (la lb lc : List Int) (N : Nat → Int) (w : World) (HA : U64At F w A n ca la) (HB : U64At G w B n cb lb) (HC : U64At H w C n cc lc)
  (hN : ∀ i, i < n → 0 ≤ N i ∧ N i < 18446744073709551616) (ha : ∀ i, i < n → la.getD i 0 = N i % pP) (hb : ∀ i, i < n → lb.getD i 0 = N i % pQ) (hc : ∀ i, i < n → lc.getD i 0 = N i % pS) (hn : n ≤ 1000000000) :
  Calls Tryz.prog 185 #[.slice A n ca, .slice B n cb, .slice C n cc] w fun e w' => ∃ A' c', e = .returned (.tuple #[.slice A' n c', .bool true]) ∧ URow w' w.heap.size A' n c' N ∧ Chg Nothing w w' := by
 have hHA := hid (fun (w' : World) (hc : Chg Nothing w w') => HA.chg hc (fun _ _ _ h => h))
 have hHB := hid (fun (w' : World) (hc : Chg Nothing w w') => HB.chg hc (fun _ _ _ h => h))
 have hHC := hid (fun (w' : World) (hc : Chg Nothing w w') => HC.chg hc (fun _ _ _ h => h))
 have hJ := hid (fun (i : Nat) (hi : i < n) w => join_any (N i) (hN i hi) w)
 have hah := hid ha
 have hbh := hid hb
 have hch := hid hc
 have hca := HA.2.1
 have hcax := HA.2.2.1
 have hcb := HB.2.1
 have hcbx := HB.2.2.1
 have hcc := HC.2.1
 have hccx := HC.2.2.1
 clear HA HB HC ha hb hc hN
 go_enter Tryz.func185, Tryz.ntmps185
 go_wp2_with fail
 go_loopw [8, 26] (fun ov iv wr => RwsInv w n N ov iv wr) (fun _ iv _ => n - (intOf iv).toNat)
 case atStart => exact ⟨0, none, 0, Nat.zero_le _, rfl, rfl, World.ownsRow_nil _ _ _ _, Chg.refl _ _⟩
 case round =>
  obtain ⟨k, R, c, hk, rfl, rfl, hown, hchg⟩ := hrel
  rcases Nat.lt_or_ge k n with hkn | hkn
  ·obtain ⟨ga, oa, rfl, -, hgla, xa⟩ := (hHA.out _ hchg).at_ hkn
   obtain ⟨gb, ob, rfl, -, hglb, xb⟩ := (hHB.out _ hchg).at_ hkn
   obtain ⟨gc, oc, rfl, -, hglc, xc⟩ := (hHC.out _ hchg).at_ hkn
   rw [hah.out k hkn] at xa
   rw [hbh.out k hkn] at xb
   rw [hch.out k hkn] at xc
   have hk0 : (0 : Int) ≤ (k : Int) := by omega
   have hkI : (k : Int) < (n : Int) := by omega
   have hOw := hid hown
   have hCr := hid hchg
   have hj := hid (hJ.out k hkn)
   clear hown hchg
   have hNk : ∃ z, z = N k := ⟨_, rfl⟩
   obtain ⟨z, hz⟩ := hNk
   rw [← hz] at xa xb xc hj
   obtain ⟨z0, hz0⟩ : ∃ z0, z0 = z % pP := ⟨_, rfl⟩
   obtain ⟨z1, hz1⟩ : ∃ z1, z1 = z % pQ := ⟨_, rfl⟩
   obtain ⟨z2, hz2⟩ : ∃ z2, z2 = z % pS := ⟨_, rfl⟩
   rw [← hz0] at xa hj
   rw [← hz1] at xb hj
   rw [← hz2] at xc hj
   replace hz := hid hz
   clear hz0 hz1 hz2
   go_wp2_with fail
   go_region_law (go_simp; refine (hj.out _).mono ?_; rintro e w5 ⟨rfl, hc5⟩)
   all_goals
    have hC5 := hid ((Chg.refl Nothing wr).drew.trans hc5)
    have hO5 := hid (own_chg hOw.out hC5.out (fun _ _ h => h))
    have hs5 : w.heap.size ≤ w5.heap.size := Nat.le_trans hCr.out.size hC5.out.size
    clear hc5 xa xb xc
    go_wp2_with (at_builtin; refine append_one rfl _ _ 134 rfl w.heap.size 82 (.int .u64 0) 8 Tryz.underlying134 infoU rfl R c k _ rfl hO5.out (.int .u64 z) rfl rfl ?_ ?_ ?_ ?_)
    ·omega
    ·omega
    ·omega
    intro A' c' w6 hown6 hc6 hA6
    have hO6 := hid (show URow w6 w.heap.size A' (k + 1) c' N from by rw [hz.out, urow_succ] at hown6; exact hown6)
    have oa6 := own_of hO5.out
    have hC6 := hid ((hCr.out.trans hC5.out).then hc6 (fun i hi h => by have := oa6 _ h; omega))
    clear hown6 hc6 hA6
    go_wp2
    go_roundw
    case rel => exact ⟨k + 1, A', c', hkn, by go_num, rfl, hO6.out, hC6.out⟩
    case measure => simp [intOf]; omega
  ·obtain rfl : k = n := by omega
   have hd : decide ((k : Int) < (k : Int)) = false := decide_eq_false (by omega)
   have hOw := hid hown
   have hCr := hid hchg
   clear hown hchg
   go_wp2
   go_ret2
   exact ⟨_, _, rfl, hOw.out, hCr.out⟩
def maxT (l : List Int) (k : Nat) : Int := (l.take k).foldl max 0
theorem foldl_max_le (b : Int) : ∀ (l : List Int) (a : Int), a ≤ b → (∀ x ∈ l, x ≤ b) → l.foldl max a ≤ b
 | [], a, h, _ => h
 | x :: l, a, h, hl => foldl_max_le b l (max a x) (by have := hl x (by simp); omega) (fun y hy => hl y (by simp [hy]))
theorem maxT_le (l : List Int) (k : Nat) (b : Int) (hb : 0 ≤ b) (h : ∀ x ∈ l, x ≤ b) : maxT l k ≤ b := foldl_max_le b _ _ hb (fun x hx => h x (List.mem_of_mem_take hx))
theorem maxT_succ (l : List Int) (k : Nat) (h : k < l.length) : maxT l (k + 1) = max (maxT l k) (l.getD k 0) := by
 unfold maxT
 rw [List.take_succ_eq_append_getElem h, List.foldl_append]
 simp [h]
def GrInv (w : World) (l : List Int) (n : Nat) (ov iv : Value) (wr : World) : Prop := ∃ (k : Nat) (z : Int), k ≤ n ∧ iv = .int .i64 k ∧ ov = .int .u64 z ∧ Hid (z = maxT l k) ∧ Chg Nothing w wr
theorem greatest_any (F : Nat → Prop) (A : Option Addr) (n c : Nat) (l : List Int) (w : World) (HA : U64At F w A n c l) :
  Calls Tryz.prog 191 #[.slice A n c] w fun e w' => e = .returned (.int .u64 (maxT l n)) ∧ Chg Nothing w w' := by
 have hHA := hid (fun (w' : World) (hc : Chg Nothing w w') => HA.chg hc (fun _ _ _ h => h))
 have hca := HA.2.1
 have hcax := HA.2.2.1
 have hll := HA.2.2.2.1
 clear HA
 go_enter Tryz.func191, Tryz.ntmps191
 go_wp2_with fail
 go_loopw [3, 8] (fun ov iv wr => GrInv w l n ov iv wr) (fun _ iv _ => n - (intOf iv).toNat)
 case atStart => exact ⟨0, 0, Nat.zero_le _, rfl, rfl, hid rfl, Chg.refl _ _⟩
 case round =>
  obtain ⟨k, z, hk, rfl, rfl, hz, hchg⟩ := hrel
  rcases Nat.lt_or_ge k n with hkn | hkn
  ·obtain ⟨ga, oa, rfl, -, hgla, xa⟩ := (hHA.out _ hchg).at_ hkn
   have hk0 : (0 : Int) ≤ (k : Int) := by omega
   have hkI : (k : Int) < (n : Int) := by omega
   have hCr := hid hchg
   obtain ⟨x, hx⟩ : ∃ x, x = l.getD k 0 := ⟨_, rfl⟩
   rw [← hx] at xa
   obtain ⟨y, hy⟩ : ∃ y, max z x = y := ⟨_, rfl⟩
   have hyn := hid (show y = maxT l (k + 1) from by rw [maxT_succ _ _ (by omega), ← hy, hz.out, hx])
   clear hchg hx
   go_wp2
   go_roundw
   case rel => exact ⟨k + 1, _, hkn, by go_num, rfl, hid (by rw [← hyn.out, ← hy]; split <;> omega), hCr.out⟩
   case measure => simp [intOf]; omega
  ·obtain rfl : k = n := by omega
   have hd : decide ((k : Int) < (k : Int)) = false := decide_eq_false (by omega)
   have hCr := hid hchg
   clear hchg
   go_wp2
   go_ret
   exact ⟨(show Ending.returned (Value.int .u64 z) = _ from by rw [hz.out]), hCr.out⟩
def sizedB (m size : Int) : Bool := (logS size).isSome && decide (m ≤ size)
def slidesB (m n : Int) : Bool := decide (1 ≤ m) && decide (m ≤ n)
def countS (m n size : Int) : Int := if slidesB m (min n 1099511627776) && sizedB m size then 3 + 6 * ((min n 1099511627776 - m) / (size - m + 1) + 1) else 0
theorem logS_le {n : Int} (h : (logS n).isSome = true) : 1 ≤ n ∧ n ≤ 4096 := by
 obtain ⟨m, hm⟩ := Option.isSome_iff_exists.1 h
 obtain ⟨h1, rfl⟩ := logS_some.1 hm
 exact pow2_le m h1
theorem sized_any (m size : Int) (w : World) : Calls Tryz.prog 95 #[.int .i64 m, .int .i64 size] w fun e w' => e = .returned (.bool (sizedB m size)) ∧ w' = w := by
 have hL := hid (fun w => nttLog_any size w)
 unfold sizedB
 generalize logS size = o at hL ⊢
 cases o with
 | none =>
  go_enter Tryz.func95, Tryz.ntmps95
  go_wp2_with fail
  refine (hL.out _).mono ?_
  rintro e w2 ⟨rfl, rfl⟩
  simp only [Option.getD_none, Option.isSome_none]
  go_wp2
  go_ret
  simp
 | some k =>
  go_enter Tryz.func95, Tryz.ntmps95
  go_wp2_with fail
  refine (hL.out _).mono ?_
  rintro e w2 ⟨rfl, rfl⟩
  simp only [Option.getD_some, Option.isSome_some]
  go_wp2
  go_ret
  simp
theorem slides_any (m n : Int) (w : World) : Calls Tryz.prog 94 #[.int .i64 m, .int .i64 n] w fun e w' => e = .returned (.bool (slidesB m n)) ∧ w' = w := by
 by_cases h : 1 ≤ m
 ·go_enter Tryz.func94, Tryz.ntmps94
  go_wp2
  all_goals (go_ret; simp [slidesB, h]; try omega)
 ·go_enter Tryz.func94, Tryz.ntmps94
  go_wp2
  all_goals (go_ret; simp [slidesB]; try omega)
theorem count_parts {m n' size : Int} (h1 : slidesB m n' = true) (h2 : sizedB m size = true) : (1 ≤ size ∧ size ≤ 4096) ∧ m ≤ size ∧ 1 ≤ m ∧ m ≤ n' := by
 unfold sizedB at h2; unfold slidesB at h1; simp at h1 h2
 exact ⟨logS_le h2.1, h2.2, h1.1, h1.2⟩
def cntS (m n' size : Int) : Int := if slidesB m n' && sizedB m size then 3 + 6 * ((n' - m) / (size - m + 1) + 1) else 0
theorem count_any (m n size : Int) (w : World) : Calls Tryz.prog 63 #[.int .i64 m, .int .i64 n, .int .i64 size] w fun e w' => e = .returned (.int .i64 (countS m n size)) ∧ w' = w := by
 obtain ⟨n', hn'⟩ : ∃ n', min n 1099511627776 = n' := ⟨_, rfl⟩
 have hb : n' ≤ 1099511627776 := by omega
 have hcs : countS m n size = cntS m n' size := by unfold countS cntS; rw [hn']
 rw [hcs]
 clear hcs
 have hn2 : n ≤ 1099511627776 ∧ n' = n ∨ 1099511627776 < n ∧ n' = 1099511627776 := by omega
 clear hn'
 have hSl := hid (fun w => slides_any m n' w)
 have hSz := hid (fun w => sized_any m size w)
 have hpt := hid (fun (h1 : slidesB m n' = true) (h2 : sizedB m size = true) => count_parts h1 h2)
 unfold cntS
 generalize slidesB m n' = sl at *
 generalize sizedB m size = sz at *
 rcases hn2 with ⟨hlt, rfl⟩ | ⟨hlt, rfl⟩
 ·cases sl with
  | false =>
   go_enter Tryz.func63, Tryz.ntmps63
   go_wp2_with fail
   refine (hSl.out _).mono ?_
   rintro e w2 ⟨rfl, rfl⟩
   go_wp2
   go_ret
   simp
  | true =>
   cases sz with
   | false =>
    go_enter Tryz.func63, Tryz.ntmps63
    go_wp2_with fail
    refine (hSl.out _).mono ?_
    rintro e w2 ⟨rfl, rfl⟩
    go_wp2_with fail
    refine (hSz.out _).mono ?_
    rintro e w3 ⟨rfl, rfl⟩
    go_wp2
    go_ret
    simp
   | true =>
    obtain ⟨⟨z1, z2⟩, z3, s1, s2⟩ := hpt.out rfl rfl
    obtain ⟨q1, hq1⟩ : ∃ q1 : Int, n' - m = q1 := ⟨_, rfl⟩
    obtain ⟨q2, hq2⟩ : ∃ q2 : Int, size - m + 1 = q2 := ⟨_, rfl⟩
    have p1 : 0 ≤ q1 := by omega
    have p2 : (0 : Int) < q2 := by omega
    have hq := Int.ediv_nonneg p1 (Int.le_of_lt p2)
    have hq3 : q1 / q2 ≤ q1 := Int.ediv_le_self _ p1
    have p3 : q1 ≤ 1099511627776 := by omega
    rw [hq1, hq2]
    obtain ⟨q, hqd⟩ : ∃ q, q1 / q2 = q := ⟨_, rfl⟩
    rw [hqd] at hq hq3 ⊢
    replace hqd := hid hqd
    have he : n' - m + 1 - 1 = q1 := by omega
    replace hq1 := hid hq1
    replace hq2 := hid hq2
    go_enter Tryz.func63, Tryz.ntmps63
    go_wp2_with fail
    refine (hSl.out _).mono ?_
    rintro e w2 ⟨rfl, rfl⟩
    go_wp2_with fail
    refine (hSz.out _).mono ?_
    rintro e w3 ⟨rfl, rfl⟩
    have hqd := hqd.out
    have hq2 := hq2.out
    go_wp2
    go_ret
    simp
 ·cases sl with
  | false =>
   go_enter Tryz.func63, Tryz.ntmps63
   go_wp2_with fail
   refine (hSl.out _).mono ?_
   rintro e w2 ⟨rfl, rfl⟩
   go_wp2
   go_ret
   simp
  | true =>
   cases sz with
   | false =>
    go_enter Tryz.func63, Tryz.ntmps63
    go_wp2_with fail
    refine (hSl.out _).mono ?_
    rintro e w2 ⟨rfl, rfl⟩
    go_wp2_with fail
    refine (hSz.out _).mono ?_
    rintro e w3 ⟨rfl, rfl⟩
    go_wp2
    go_ret
    simp
   | true =>
    obtain ⟨⟨z1, z2⟩, z3, s1, s2⟩ := hpt.out rfl rfl
    obtain ⟨q1, hq1⟩ : ∃ q1 : Int, 1099511627776 - m = q1 := ⟨_, rfl⟩
    obtain ⟨q2, hq2⟩ : ∃ q2 : Int, size - m + 1 = q2 := ⟨_, rfl⟩
    have p1 : 0 ≤ q1 := by omega
    have p2 : (0 : Int) < q2 := by omega
    have hq := Int.ediv_nonneg p1 (Int.le_of_lt p2)
    have hq3 : q1 / q2 ≤ q1 := Int.ediv_le_self _ p1
    have p3 : q1 ≤ 1099511627776 := by omega
    rw [hq1, hq2]
    obtain ⟨q, hqd⟩ : ∃ q, q1 / q2 = q := ⟨_, rfl⟩
    rw [hqd] at hq hq3 ⊢
    replace hqd := hid hqd
    have he : 1099511627776 - m + 1 - 1 = q1 := by omega
    replace hq1 := hid hq1
    replace hq2 := hid hq2
    go_enter Tryz.func63, Tryz.ntmps63
    go_wp2_with fail
    refine (hSl.out _).mono ?_
    rintro e w2 ⟨rfl, rfl⟩
    go_wp2_with fail
    refine (hSz.out _).mono ?_
    rintro e w3 ⟨rfl, rfl⟩
    have hqd := hqd.out
    have hq2 := hq2.out
    go_wp2
    go_ret
    simp
theorem blkCheck_none (F G : Nat → Prop) (A B : Option Addr) (m ca n cb : Nat) (size : Int) (w : World) (h : slidesB m n = false) :
  Calls Tryz.prog 178 #[.slice A m ca, .slice B n cb, .int .i64 size] w fun e w' => e = .returned (.int .i64 0) ∧ w' = w := by
 have hSl := hid (fun w => slides_any m n w)
 rw [h] at hSl
 go_enter Tryz.func178, Tryz.ntmps178
 go_wp2_with fail
 refine (hSl.out _).mono ?_
 rintro e w2 ⟨rfl, rfl⟩
 go_wp2
 go_ret
 exact ⟨rfl, rfl⟩
theorem quo_ok {x y : Int} (hx : 0 < x) (h : x * y ≤ 18446744073709551615) : y ≤ 18446744073709551615 / x := by
 rw [Int.le_ediv_iff_mul_le hx, Int.mul_comm]; exact h
theorem blkCheck_ok (F G : Nat → Prop) (A B : Option Addr) (m ca n cb : Nat) (lp lt : List Int) (size x y : Int) (w : World) (HA : U64At F w A m ca lp) (HB : U64At G w B n cb lt) (h : slidesB m n = true) (h2 : sizedB m size = true)
  (hx : maxT lp m = x) (hy : maxT lt n = y) (hx0 : 0 ≤ x) (hy0 : 0 ≤ y) (hb1 : x * y ≤ 18446744073709551615) (hb2 : x * y * m ≤ 18446744073709551615) :
  Calls Tryz.prog 178 #[.slice A m ca, .slice B n cb, .int .i64 size] w fun e w' => e = .returned (.int .i64 0) ∧ Chg Nothing w w' := by
 have hSl := hid (fun w => slides_any m n w)
 have hSz := hid (fun w => sized_any m size w)
 have hGa := hid (greatest_any F A m ca lp w HA)
 have hGb := hid (fun (w' : World) (hc : Chg Nothing w w') => greatest_any G B n cb lt w' (HB.chg hc (fun _ _ _ h => h)))
 have hm2 : (m : Int) ≤ 4096 := by unfold sizedB at h2; simp at h2; have := logS_le h2.1; omega
 rw [h] at hSl
 rw [h2] at hSz
 rw [hx] at hGa
 rw [hy] at hGb
 have hmw : IntKind.u64.wrap (m : Int) = (m : Int) := by rw [IntKind.wrap_u64]; exact Int.emod_eq_of_lt (by omega) (by omega)
 have hxy0 : 0 ≤ x * y := Int.mul_nonneg hx0 hy0
 by_cases hxz : x = 0
 ·subst hxz
  clear hb1 hb2 hx hy h h2 HA HB
  rw [Int.zero_mul] at hxy0
  go_enter Tryz.func178, Tryz.ntmps178
  go_wp2_with fail
  refine (hSl.out _).mono ?_
  rintro e w2 ⟨rfl, rfl⟩
  go_wp2_with fail
  refine (hSz.out _).mono ?_
  rintro e w3 ⟨rfl, rfl⟩
  go_wp2_with fail
  refine (hGa.out).mono ?_
  rintro e w4 ⟨rfl, hc4⟩
  have hC4 := hid hc4
  clear hc4
  go_wp2_with fail
  refine (hGb.out _ hC4.out).mono ?_
  rintro e w5 ⟨rfl, hc5⟩
  have hC5 := hid (hC4.out.trans hc5)
  clear hc5
  go_wp2
  go_ret
  exact ⟨rfl, hC5.out⟩
 ·have hq1 := quo_ok (x := x) (y := y) (by omega) hb1
  have hd1 : decide (18446744073709551615 / x < y) = false := decide_eq_false (by omega)
  have hx1 : (x == 0) = false := beq_eq_false_iff_ne.2 hxz
  have hq2 := hid (fun (hz : 0 < x * y) => quo_ok hz hb2)
  have hxy := hid (show x * y = 0 ∨ 0 < x * y by omega)
  clear hb2 hx hy h h2 HA HB
  go_enter Tryz.func178, Tryz.ntmps178
  go_wp2_with fail
  refine (hSl.out _).mono ?_
  rintro e w2 ⟨rfl, rfl⟩
  go_wp2_with fail
  refine (hSz.out _).mono ?_
  rintro e w3 ⟨rfl, rfl⟩
  go_wp2_with fail
  refine (hGa.out).mono ?_
  rintro e w4 ⟨rfl, hc4⟩
  have hC4 := hid hc4
  clear hc4
  go_wp2_with fail
  refine (hGb.out _ hC4.out).mono ?_
  rintro e w5 ⟨rfl, hc5⟩
  have hC5 := hid (hC4.out.trans hc5)
  clear hc5
  rcases hxy.out with hz | hz
  ·have hz1 : (x * y == 0) = true := by rw [hz]; rfl
   go_wp2
   all_goals (go_ret; exact ⟨rfl, hC5.out⟩)
  ·have hz1 : (x * y == 0) = false := beq_eq_false_iff_ne.2 (by omega)
   have hd2 : decide (18446744073709551615 / (x * y) < (m : Int)) = false := decide_eq_false (by have := hq2.out hz; omega)
   go_wp2
   all_goals (go_ret; exact ⟨rfl, hC5.out⟩)
theorem wide_any (F : Nat → Prop) (A : Option Addr) (n c : Nat) (l : List Int) (size : Nat) (w : World) (HA : U64At F w A n c l) (hF : ∀ j, F j → j < w.heap.size) (h1 : 1 ≤ n) (hns : n ≤ size) (hs : size ≤ 1000000000) :
  Calls Tryz.prog 182 #[.slice A n c, .int .i64 (size : Nat)] w fun e w' => e = .returned (.slice (some ⟨w.heap.size, 0, none⟩) size size) ∧ FBlk w' w.heap.size size (fun q => l.getD q 0) 82 ∧ Chg Nothing w w' := by
 have hmk := make_u64 size hs w
 have hF0 := FBlk.made w size 82
 have hC0 := (Chg.refl Nothing w).alloc (.cells (madeCells #[.int .u64 0] size) 82)
 have HA0 := HA.chg hC0 (fun _ _ _ h => h)
 obtain ⟨ga, oa, rfl, -, hga, -⟩ := HA.at_ (show 0 < n by omega)
 generalize hW : w.alloc (.cells (madeCells #[.int .u64 0] size) 82) = W at *
 have hlen := HA.2.2.2.1
 have hmin : Nat.min n size = n := Nat.min_eq_left hns
 have hcl : ((l.take n).map (Value.int .u64)).length = n := by rw [List.length_map, List.length_take]; omega
 have hrun := run_copy_cells (P := Tryz.prog) W 134 134 3 82 w.heap.size 0 size size ⟨ga, oa, none⟩ n c ((l.take n).map (Value.int .u64)) Tryz.underlying134 (by kernel_rfl) (by rw [hcl, hmin]) (fun j v hj => by
   have hjn : j < n := by
    have := (List.getElem?_eq_some_iff.1 hj).1
    omega
   obtain ⟨g2, o2, h2, -, -, h3⟩ := HA0.at_ hjn
   injection h2 with h2
   injection h2 with h4 h5
   subst h4 h5
   rw [show (⟨ga, oa, none⟩ : Addr).add j = ⟨ga, oa + j, none⟩ from by simp [Addr.add], h3, ← hj]
   simp [hjn, show j < l.length from by omega]) (fun j hj => by rw [Nat.zero_add, hF0.cell (by omega)]; rfl) (fun j _ => hF0.free _) (fun v hv => by obtain ⟨z, -, rfl⟩ := List.mem_map.1 hv; rfl)
 rw [hcl] at hrun
 have hB0 := Blk.setCells ((l.take n).map (Value.int .u64)) 0 W _ hF0
 have hB1 : FBlk (W.setCells w.heap.size 0 ((l.take n).map (Value.int .u64))) w.heap.size size (fun q => l.getD q 0) 82 := by
  unfold FBlk
  rwa [show ((List.range size).map fun q => Value.int .u64 (l.getD q 0)).toArray = splice ((List.range size).map fun _ => Value.int .u64 0).toArray 0 ((l.take n).map (Value.int .u64)) from by
   apply Array.ext_getElem?
   intro i
   rw [splice_get _ _ _ _ (by simp; omega), hcl]
   by_cases hi : i < n
   ·rw [if_pos (by omega)]
    simp [hi, show i < size from by omega, show i < l.length from by omega]
   ·rw [if_neg (by omega)]
    by_cases hi2 : i < size
    ·simp [hi2, show l.length ≤ i from by omega]
    ·simp [hi2]]
 have hC1 := Chg.setCells (S := Nothing) ((l.take n).map (Value.int .u64)) 0 w W hC0 (fun h => absurd h (Nat.lt_irrefl _))
 generalize W.setCells w.heap.size 0 ((l.take n).map (Value.int .u64)) = W' at *
 have hBh := hid hB1
 have hCh := hid hC1
 clear hF0 hC0 HA0 HA hB0 hB1 hC1 hmin hcl
 go_enter Tryz.func182, Tryz.ntmps182
 go_wp2
 go_ret
 exact ⟨rfl, hBh.out, hCh.out⟩
def TuInv (w : World) (l : List Int) (m size : Nat) (iv : Value) (wr : World) : Prop := ∃ (k : Nat), k ≤ m ∧ iv = .int .i64 k ∧ FBlk wr w.heap.size size (fun q => if (size - q) % size < k then l.getD ((size - q) % size) 0 else 0) 82 ∧ Chg Nothing w wr
theorem turn_step (l : List Int) (size k q : Nat) (hk : k < size) (hq : q < size) : (if q = (size - k) % size then l.getD k 0 else if (size - q) % size < k then l.getD ((size - q) % size) 0 else 0) = if (size - q) % size < k + 1 then l.getD ((size - q) % size) 0 else 0 := by
 have e : ∀ j, j < size → (size - j) % size = if j = 0 then 0 else size - j := fun j hj => by
  split
  ·subst j; simp
  ·exact Nat.mod_eq_of_lt (by omega)
 rw [e k hk, e q hq]
 by_cases hk0 : k = 0
 ·subst hk0
  by_cases hq0 : q = 0
  ·subst hq0; simp
  ·rw [if_pos rfl, if_neg hq0, if_neg hq0, if_neg (by omega), if_neg (by omega)]
 ·rw [if_neg hk0]
  by_cases hq0 : q = 0
  ·subst hq0
   rw [if_neg (by omega), if_pos rfl, if_pos (by omega), if_pos (by omega)]
  ·rw [if_neg hq0]
   by_cases h : q = size - k
   ·rw [if_pos h, if_pos (by omega), show size - q = k from by omega]
   ·rw [if_neg h]
    by_cases h3 : size - q < k
    ·rw [if_pos h3, if_pos (by omega)]
    ·rw [if_neg h3, if_neg (by omega)]
theorem turned_any (F : Nat → Prop) (A : Option Addr) (m c : Nat) (l : List Int) (size : Nat) (w : World) (HA : U64At F w A m c l) (hns : m ≤ size) (hs : size ≤ 1000000000) :
  Calls Tryz.prog 180 #[.slice A m c, .int .i64 (size : Nat)] w fun e w' => e = .returned (.slice (some ⟨w.heap.size, 0, none⟩) size size) ∧ FBlk w' w.heap.size size (fun q => l.getD ((size - q) % size) 0) 82 ∧ Chg Nothing w w' := by
 have hmk := make_u64 size hs w
 have hF0 := hid (FBlk.made w size 82)
 have hC0 := hid ((Chg.refl Nothing w).alloc (.cells (madeCells #[.int .u64 0] size) 82))
 have hHA := hid (fun (w' : World) (hc : Chg Nothing w w') => HA.chg hc (fun _ _ _ h => h))
 have hlen := HA.2.2.2.1
 have hmc := HA.2.1
 have hcx := HA.2.2.1
 clear HA
 go_enter Tryz.func180, Tryz.ntmps180
 go_wp2_with fail
 go_loopw [12] (fun iv wr => TuInv w l m size iv wr) (fun iv _ => m - (intOf iv).toNat)
 case atStart => exact ⟨0, Nat.zero_le _, rfl, hF0.out.congr (fun q _ => by rw [if_neg (by omega)]), hC0.out⟩
 case round =>
  obtain ⟨k, hk, rfl, hB, hchg⟩ := hrel
  rcases Nat.lt_or_ge k m with hkm | hkm
  ·obtain ⟨ga, oa, rfl, -, hgla, xa⟩ := (hHA.out _ hchg).at_ hkm
   have hk0 : (0 : Int) ≤ (k : Int) := by omega
   have hkI : (k : Int) < (m : Int) := by omega
   have hgl := hB.lt
   obtain ⟨t, ht⟩ : ∃ t, t = (size - k) % size := ⟨_, rfl⟩
   have htl : t < size := by rw [ht]; exact Nat.mod_lt _ (by omega)
   have hti : ((size : Int) - (k : Int)).tmod (size : Int) = (t : Int) := by
    rw [Int.tmod_eq_emod_of_nonneg (by omega), ht, show (size : Int) - (k : Int) = ((size - k : Nat) : Int) from by omega]; norm_cast
   have y0 := hB.cell (q := t) htl
   have f0 := hB.free t
   have htI : (t : Int) < (size : Int) := by omega
   have ht0 : (0 : Int) ≤ (t : Int) := by omega
   have hsz : (size : Int) ≠ 0 := by omega
   have hB1 := hid ((hB.set t (l.getD k 0)).congr (f' := fun q => if (size - q) % size < k + 1 then l.getD ((size - q) % size) 0 else 0) (fun q hq => by rw [ht]; exact turn_step l size k q (by omega) hq))
   have hC1 := hid (hchg.setNew (g := w.heap.size) (Nat.le_refl _) t (.int .u64 (l.getD k 0)))
   have hth := hid ht
   clear hB hchg ht
   generalize l.getD k 0 = x at *
   go_wp2
   go_roundw
   case rel => exact ⟨k + 1, hkm, by go_num, hB1.out, hC1.out⟩
   case measure => simp [intOf]; omega
  ·obtain rfl : k = m := by omega
   have hd : decide ((k : Int) < (k : Int)) = false := decide_eq_false (by omega)
   have hBf := hid (hB.congr (f' := fun q => l.getD ((size - q) % size) 0) (fun q _ => by
    by_cases h : (size - q) % size < k
    ·rw [if_pos h]
    ·rw [if_neg h]; simp; rw [List.getElem?_eq_none (by omega)]; rfl))
   have hCf := hid hchg
   clear hB hchg
   go_wp2
   go_ret
   exact ⟨rfl, hBf.out, hCf.out⟩
end Go.Proofs.YtoelilejohfglaaGreat
namespace Go.Proofs.YtoelilejohfglaaGreat
open Go.RowKit
set_option linter.unusedVariables false
set_option linter.unusedSimpArgs false
section
variable {P : Program} {ops : Array Oper} {Q : Exit → Act → World → Prop} {md : Region.Mode} {n : Nat} {C : World → Prop}
def noDefer (ops : Array Oper) : Bool := ops.all fun o => match o.op with | .defer _ => false | _ => true
theorem noDefer_at (h : noDefer ops = true) {i : Nat} {o : Oper} (ho : ops[i]? = some o) (c : Call) : o.op ≠ .defer c := fun e => by
 unfold noDefer at h
 rw [Array.all_eq_true] at h
 obtain ⟨hi, rfl⟩ := Array.getElem?_eq_some_iff.1 ho
 have := h i hi
 rw [e] at this
 cases this
theorem wpOpIn_round {l i : Nat} {K : Act → World → Prop} {a : Act} {w : World} (hd : noDefer ops = true) (h : wpOpIn Fence.wide n P ops Q i K a w) : wpOpIn (Fence.wide.inRound l) n P ops Q i K a w := by
 unfold wpOpIn at h ⊢
 cases ho : ops[i]? with
 | none => simp only [ho] at h ⊢; exact h
 | some o =>
  simp only [ho] at h ⊢
  split
  ·rename_i hw
   simp only [hw, if_true] at h
   unfold Oper.wpIn at h ⊢
   rw [Oper.semAt_eq _ _ _ (noDefer_at hd ho)] at h ⊢
   exact h
  ·rename_i hw
   simp only [hw] at h
   exact h
theorem wpAnyIn_round {l : Nat} (hd : noDefer ops = true) : ∀ (fuel : Nat) (listed : Array Bool) (a : Act) (w : World), wpAnyIn Fence.wide n P md ops Q fuel listed a w → wpAnyIn (Fence.wide.inRound l) n P md ops Q fuel listed a w
 | 0, _, _, _, h => h
 | fuel + 1, listed, a, w, h => ⟨h.1, fun i hi => wpOpIn_mono (fun a w hh => wpAnyIn_round hd fuel _ a w hh) (wpOpIn_round hd (h.2 i hi))⟩
theorem wpIn_region_round {l id : Nat} {a : Act} {w : World} (hm : P.follows .mixedOrders = true) (hd : noDefer ops = true)
  (h : wpAnyIn Fence.wide n P .any ops Q ops.size (Array.replicate ops.size false) a w.drew) : (Code.region id ops true).wpIn (Fence.wide.inRound l) n P Q a w :=
 wpIn_region_any hm (wpAnyIn_round hd _ _ _ _ h)
theorem wpAnyIn_more : ∀ (fuel : Nat) (listed : Array Bool) (a : Act) (w : World), wpAnyIn Fence.wide n P md ops Q fuel listed a w → wpAnyIn Fence.wide n P md ops Q (fuel + 1) listed a w
 | 0, _, _, _, h => ⟨fun _ => h.2, fun i hi => by rw [h.1] at hi; cases hi⟩
 | fuel + 1, listed, a, w, h => ⟨h.1, fun i hi => wpOpIn_mono (fun a w hh => wpAnyIn_more fuel _ a w hh) (h.2 i hi)⟩
theorem wpAnyIn_moreN (listed : Array Bool) (a : Act) (w : World) (fuel : Nat) (h : wpAnyIn Fence.wide n P md ops Q fuel listed a w) : ∀ d, wpAnyIn Fence.wide n P md ops Q (d + fuel) listed a w
 | 0 => by rw [Nat.zero_add]; exact h
 | d + 1 => by rw [show d + 1 + fuel = (d + fuel) + 1 from by omega]; exact wpAnyIn_more _ _ _ _ (wpAnyIn_moreN listed a w fuel h d)
theorem wpIn_of_quiet {o : Oper} {a : Act} {K : Act → Prop} {K' : Act → World → Prop} {w : World} (hw : C w) (h : ∀ a w', C w' → K a → K' a w') (hh : o.quiet P a C K) : o.wpIn Fence.wide n P a w K' Q := by
 obtain ⟨v, h1, h2⟩ := hh
 have h3 := h1 w hw
 unfold Oper.quietAt at h3
 unfold Oper.wpIn
 refine ⟨fun _ _ => trivial, ?_⟩
 rw [show Fence.wide.round = none from rfl, Oper.semAt_none]
 generalize (execOp a.eval o).run P w = r at *
 cases r with
 | ok x w' =>
  cases x <;> simp only [Oper.quietUpon] at h3 <;> simp only [Oper.uponIn]
  case value u =>
   obtain ⟨e1, e2⟩ := h3
   rw [e1, e2]
   exact h _ _ hw h2
  case skip =>
   obtain ⟨e1, e2⟩ := h3
   rw [e1, ← e2]
   exact h _ _ hw h2
  case enter f args =>
   obtain ⟨e1, hc⟩ := h3
   rw [e1]
   exact ⟨fun e => by simp [Fence.wide] at e, callsIn_wide.2 (hc.mono fun e w'' ⟨he, hw''⟩ => by subst he; exact h _ _ hw'' h2)⟩
 | halt x w' => simp only [Oper.quietUpon] at h3
def edgeB (md : Region.Mode) (o : Oper) (i : Nat) : Bool := o.after.any fun e => Region.binds md e && e.on == i
def phaseB (md : Region.Mode) (ops : Array Oper) (s k : Nat) : Bool :=
 decide (k < ops.size) && ((List.range k).all fun i => match ops[i]? with | some o => (o.after.all fun e => !Region.binds md e || decide (e.on < i)) && o.guard.isNone | none => false) &&
 ((List.range k).all fun i => decide (i < s) || ((List.range (k + 1)).any fun j => decide (i < j) && (match ops[j]? with | some o => edgeB md o i | none => false))) &&
 ((List.range ops.size).all fun j => decide (j ≤ k) || (match ops[j]? with | some o => o.after.any fun e => Region.binds md e && decide (k ≤ e.on) | none => false))
structure Stage (md : Region.Mode) (ops : Array Oper) (s k : Nat) (listed : Array Bool) : Prop where
 size : listed.size = ops.size
 late : ∀ j, k ≤ j → j < ops.size → listed.getD j true = false
 early : ∀ i, i < s → i < k → listed.getD i false = true
 down : ∀ i o, i < k → ops[i]? = some o → listed.getD i false = true → ∀ e ∈ o.after, Region.binds md e = true → listed.getD e.on false = true
theorem mem_ready_iff {listed : Array Bool} {j : Nat} : j ∈ Region.ready md ops listed ↔ j < ops.size ∧ listed.getD j true = false ∧ ∃ o, ops[j]? = some o ∧ ∀ e ∈ o.after, Region.binds md e = true → listed.getD e.on false = true := by
 unfold Region.ready
 simp only [List.mem_filter, List.mem_range, Bool.and_eq_true, Bool.not_eq_true']
 constructor
 ·rintro ⟨h1, h2, h3⟩
  refine ⟨h1, h2, ?_⟩
  cases ho : ops[j]? with
  | none => rw [ho] at h3; simp at h3
  | some o =>
   refine ⟨o, rfl, fun e he hb => ?_⟩
   rw [ho] at h3
   simp only [Option.map_some, Option.getD_some] at h3
   rw [Array.all_eq_true'] at h3
   have := h3 e he
   rw [hb] at this
   simpa using this
 ·rintro ⟨h1, h2, o, ho, h3⟩
  refine ⟨h1, h2, ?_⟩
  rw [ho]
  simp only [Option.map_some, Option.getD_some]
  rw [Array.all_eq_true']
  intro e he
  cases hb : Region.binds md e
  ·rfl
  ·simp [h3 e he hb]
theorem phase_parts {s k : Nat} (h : phaseB md ops s k = true) : k < ops.size ∧ (∀ i, i < k → ∃ o, ops[i]? = some o ∧ (∀ e ∈ o.after, Region.binds md e = true → e.on < i) ∧ o.guard = none) ∧
  (∀ i, s ≤ i → i < k → ∃ j o, i < j ∧ j ≤ k ∧ ops[j]? = some o ∧ ∃ e ∈ o.after, Region.binds md e = true ∧ e.on = i) ∧
  (∀ j, k < j → j < ops.size → ∃ o, ops[j]? = some o ∧ ∃ e ∈ o.after, Region.binds md e = true ∧ k ≤ e.on) := by
 unfold phaseB at h
 simp only [Bool.and_eq_true, decide_eq_true_eq, List.all_eq_true, List.mem_range, Bool.or_eq_true, List.any_eq_true] at h
 obtain ⟨⟨⟨h0, h1⟩, h2⟩, h3⟩ := h
 refine ⟨h0, fun i hi => ?_, fun i hs hi => ?_, fun j hj hjs => ?_⟩
 ·have := h1 i hi
  cases ho : ops[i]? with
  | none => rw [ho] at this; cases this
  | some o =>
   rw [ho] at this
   simp only [Bool.and_eq_true] at this
   obtain ⟨t1, t2⟩ := this
   refine ⟨o, rfl, fun e he hb => ?_, by simpa using t2⟩
   rw [Array.all_eq_true'] at t1
   have := t1 e he
   rw [hb] at this
   simpa using this
 ·rcases h2 i hi with h | ⟨j, hj, hij, he⟩
  ·omega
  ·cases ho : ops[j]? with
   | none => rw [ho] at he; cases he
   | some o =>
    rw [ho] at he
    simp only at he
    unfold edgeB at he
    rw [Array.any_eq_true'] at he
    obtain ⟨e, hm, hb⟩ := he
    simp only [Bool.and_eq_true, beq_iff_eq] at hb
    exact ⟨j, o, hij, by omega, ho, e, hm, hb.1, hb.2⟩
 ·rcases h3 j hjs with h | he
  ·omega
  ·cases ho : ops[j]? with
   | none => rw [ho] at he; cases he
   | some o =>
    rw [ho] at he
    simp only at he
    rw [Array.any_eq_true'] at he
    obtain ⟨e, hm, hb⟩ := he
    simp only [Bool.and_eq_true, decide_eq_true_eq] at hb
    exact ⟨o, rfl, e, hm, hb.1, hb.2⟩
theorem getD_tf {listed : Array Bool} {i : Nat} (h : i < listed.size) : listed.getD i true = listed.getD i false := by simp [Array.getD, h]
theorem Stage.all_of_late {s k : Nat} {listed : Array Bool} (hB : phaseB md ops s k = true) (h : Stage md ops s k listed) {j : Nat} (hj : k ≤ j) (hr : j ∈ Region.ready md ops listed) : ∀ i, i < k → listed.getD i false = true := by
 obtain ⟨h0, h1, h2, h3⟩ := phase_parts hB
 obtain ⟨r1, r2, o, ho, r3⟩ := mem_ready_iff.1 hr
 have hjk : j = k := by
  apply Classical.byContradiction
  intro hne
  obtain ⟨o', ho', e, he, hb, hle⟩ := h3 j (by omega) r1
  rw [ho] at ho'
  obtain rfl := Option.some.inj ho'
  have h4 := r3 e he hb
  by_cases h5 : e.on < ops.size
  ·have := h.late e.on hle h5
   rw [getD_tf (by rw [h.size]; exact h5), h4] at this
   cases this
  ·rw [Array.getD, dif_neg (by rw [h.size]; exact h5)] at h4
   cases h4
 subst hjk
 have key : ∀ d i, i < j → j ≤ i + d → listed.getD i false = true := by
  intro d
  induction d with
  | zero => intro i h4 h5; omega
  | succ d ih =>
   intro i hi hd
   by_cases his : i < s
   ·exact h.early i his hi
   ·obtain ⟨j', o', hij, hjk, ho', e, he, hb, rfl⟩ := h2 i (by omega) hi
    rcases Nat.lt_or_ge j' j with hlt | hge
    ·exact h.down j' o' hlt ho' (ih j' hlt (by omega)) e he hb
    ·obtain rfl : j' = j := by omega
     rw [ho] at ho'
     obtain rfl := Option.some.inj ho'
     exact r3 e he hb
 exact fun i hi => key j i hi (by omega)
theorem Stage.all_of_none {s k : Nat} {listed : Array Bool} (hB : phaseB md ops s k = true) (h : Stage md ops s k listed) (hr : ∀ i, i < k → i ∉ Region.ready md ops listed) : ∀ i, i < k → listed.getD i false = true := by
 obtain ⟨h0, h1, h2, h3⟩ := phase_parts hB
 intro i
 induction i using Nat.strongRecOn with
 | _ i ih =>
  intro hi
  obtain ⟨o, ho, hd, -⟩ := h1 i hi
  cases hl : listed.getD i false with
  | true => rfl
  | false =>
   exact absurd (mem_ready_iff.2 ⟨by omega, by rw [getD_tf (by rw [h.size]; omega)]; exact hl, o, ho, fun e he hb => ih e.on (hd e he hb) (by have := hd e he hb; omega)⟩) (hr i hi)
theorem getD_set {l : Array Bool} {i j : Nat} (d : Bool) (h : j < l.size) : (l.setIfInBounds i true).getD j d = if i = j then true else l.getD j d := by
 rw [Array.getD_eq_getD_getElem?, Array.getD_eq_getD_getElem?, Array.getElem?_setIfInBounds]
 by_cases hij : i = j
 ·subst hij; simp [h]
 ·simp [hij]
theorem Stage.step {s k : Nat} {listed : Array Bool} (h : Stage md ops s k listed) (hk : k < ops.size) {i : Nat} (hi : i < k) (hr : i ∈ Region.ready md ops listed) : Stage md ops s k (listed.setIfInBounds i true) := by
 obtain ⟨r1, r2, o, ho, r3⟩ := mem_ready_iff.1 hr
 have hz := h.size
 have mono : ∀ j, listed.getD j false = true → (listed.setIfInBounds i true).getD j false = true := fun j hj => by
  by_cases hjs : j < listed.size
  ·rw [getD_set false hjs]
   by_cases hij : i = j
   ·rw [if_pos hij]
   ·rw [if_neg hij]; exact hj
  ·rw [Array.getD, dif_neg hjs] at hj; cases hj
 refine ⟨by rw [Array.size_setIfInBounds]; exact hz, fun j hj hjs => ?_, fun j hj hjk => mono j (h.early j hj hjk), fun j o' hj ho' hl e he hb => ?_⟩
 ·rw [getD_set true (by omega), if_neg (by omega)]; exact h.late j hj hjs
 ·rw [getD_set false (by omega)] at hl
  by_cases hij : i = j
  ·subst hij
   rw [ho] at ho'
   obtain rfl := Option.some.inj ho'
   exact mono _ (r3 e he hb)
  ·rw [if_neg hij] at hl
   exact mono _ (h.down j o' hj ho' hl e he hb)
theorem phase_sound {s k fuel2 : Nat} {opsI : Array Oper} {Q' : Act → Prop} (hB : phaseB md ops s k = true) (hIs : opsI.size = k) (hI : ∀ i, i < k → opsI[i]? = ops[i]?)
  (hQ : ∀ (a : Act) (w : World) (listed : Array Bool), Stage md ops s k listed → (∀ i, i < k → listed.getD i false = true) → Q' a → C w → wpAnyIn Fence.wide n P md ops Q fuel2 listed a w) :
  ∀ (fuel : Nat) (listed listedI : Array Bool) (a : Act) (w : World), Stage md ops s k listed → listedI.size = k → (∀ i, i < k → listedI.getD i true = listed.getD i true) →
   wpAnyQ P md opsI C Q' fuel listedI a → C w → wpAnyIn Fence.wide n P md ops Q (fuel + fuel2) listed a w := by
 obtain ⟨h0, h1, h2, h3⟩ := phase_parts hB
 have same : ∀ (listed listedI : Array Bool), Stage md ops s k listed → listedI.size = k → (∀ i, i < k → listedI.getD i true = listed.getD i true) → ∀ i, i < k → (i ∈ Region.ready md opsI listedI ↔ i ∈ Region.ready md ops listed) := by
  intro listed listedI hst hs hl i hi
  have hz := hst.size
  rw [mem_ready_iff, mem_ready_iff, hl i hi, hI i hi]
  constructor
  ·rintro ⟨-, r2, o, ho, r3⟩
   refine ⟨by omega, r2, o, ho, fun e he hb => ?_⟩
   have := r3 e he hb
   obtain ⟨o', ho', hd, -⟩ := h1 i hi
   rw [ho] at ho'
   obtain rfl := Option.some.inj ho'
   have hlt := hd e he hb
   rw [← getD_tf (by omega), hl _ (by omega), getD_tf (by omega)] at this
   exact this
  ·rintro ⟨-, r2, o, ho, r3⟩
   refine ⟨by omega, r2, o, ho, fun e he hb => ?_⟩
   have := r3 e he hb
   obtain ⟨o', ho', hd, -⟩ := h1 i hi
   rw [ho] at ho'
   obtain rfl := Option.some.inj ho'
   have hlt := hd e he hb
   rw [← getD_tf (by omega), hl _ (by omega), getD_tf (by omega)]
   exact this
 have lt_of : ∀ (listedI : Array Bool) (i : Nat), i ∈ Region.ready md opsI listedI → i < k := fun listedI i hi => by have := (mem_ready_iff.1 hi).1; omega
 intro fuel
 induction fuel with
 | zero =>
  intro listed listedI a w hst hs hl h hC
  rw [Nat.zero_add]
  refine hQ a w listed hst (hst.all_of_none hB fun i hi hr => ?_) h.2 hC
  have := (same listed listedI hst hs hl i hi).2 hr
  rw [h.1] at this
  cases this
 | succ fuel ih =>
  intro listed listedI a w hst hs hl h hC
  by_cases hall : ∀ i, i < k → listed.getD i false = true
  ·have hnil : Region.ready md opsI listedI = [] := by
    apply List.eq_nil_iff_forall_not_mem.2
    intro i hi
    have hik := lt_of _ _ hi
    have := (mem_ready_iff.1 hi).2.1
    rw [hl i hik, getD_tf (by rw [hst.size]; omega), hall i hik] at this
    cases this
   exact wpAnyIn_moreN _ _ _ _ (hQ a w listed hst hall (h.1 hnil) hC) _
  ·rw [show fuel + 1 + fuel2 = (fuel + fuel2) + 1 from by omega]
   refine ⟨fun hr => absurd (hst.all_of_none hB fun i hi hm => by rw [hr] at hm; cases hm) hall, fun i hi => ?_⟩
   have hik : i < k := Classical.byContradiction fun hge => hall (hst.all_of_late hB (by omega) hi)
   have hq := h.2 i ((same listed listedI hst hs hl i hik).2 hi)
   obtain ⟨o, ho, -, hg⟩ := h1 i hik
   unfold qOp at hq
   rw [hI i hik] at hq
   unfold wpOpIn
   simp only [ho] at hq ⊢
   rw [if_pos (show Region.wanted o (yielded opsI a.tmps) = true from by simp [Region.wanted, hg])] at hq
   rw [if_pos (show Region.wanted o (yielded ops a.tmps) = true from by simp [Region.wanted, hg])]
   refine wpIn_of_quiet hC (fun a' w' hC' hh => ?_) hq
   refine ih _ _ a' w' (hst.step h0 hik hi) (by rw [Array.size_setIfInBounds]; exact hs) (fun j hj => ?_) hh hC'
   rw [getD_set true (by omega), getD_set true (by rw [hst.size]; omega), hl j hj]
theorem wpAnyIn_phase {s k fuel2 : Nat} {Q' : Act → Prop} {listed listedI : Array Bool} {a : Act} {w : World} (hB : phaseB md ops s k = true) (hst : Stage md ops s k listed) (hs : s ≤ k) (hsI : listedI.size = k) (hlI : ∀ i, i < k → listedI.getD i true = listed.getD i true)
  (hns : Region.noSelect (ops.extract 0 k) = true) (hlex : Region.lexFrom md (ops.extract 0 k) (k - s) s listedI = true) (hC : C w)
  (h : wpQuiet P (ops.extract 0 k) C Q' ((ops.toList.drop s).take (k - s)) a)
  (hQ : ∀ (a : Act) (w : World) (listed : Array Bool), Stage md ops s k listed → (∀ i, i < k → listed.getD i false = true) → Q' a → C w → wpAnyIn Fence.wide n P md ops Q fuel2 listed a w) :
  wpAnyIn Fence.wide n P md ops Q (k - s + fuel2) listed a w := by
 obtain ⟨h0, -, -, -⟩ := phase_parts hB
 have hlen : ((ops.toList.drop s).take (k - s)).length = k - s := by simp; omega
 have hx := wpAnyQ_lex (md := md) (P := P) (C := C) hns ((ops.toList.drop s).take (k - s)) s listedI a (fun j => by
  rw [List.getElem?_take]
  by_cases hj : j < k - s
  ·rw [if_pos hj, List.getElem?_drop, Array.getElem?_extract, if_pos (by omega)]
   simp
  ·rw [if_neg hj, Array.getElem?_extract, if_neg (by omega)]) (by rw [hlen]; exact hlex) h
 rw [hlen] at hx
 exact phase_sound hB (by simp; omega) (fun i hi => by rw [Array.getElem?_extract, if_pos (by omega)]; simp) hQ _ _ _ _ _ hst hsI hlI hx hC
theorem Stage.lit {s k : Nat} {listed : Array Bool} (h : Stage md ops s k listed) (hall : ∀ i, i < k → listed.getD i false = true) : listed = (List.replicate k true ++ List.replicate (ops.size - k) false).toArray ∨ ops.size < k := by
 by_cases hk : ops.size < k
 ·exact .inr hk
 ·refine .inl (Array.ext (by simp [h.size]; omega) fun i h1 h2 => ?_)
  by_cases hi : i < k
  ·have := hall i hi
   rw [Array.getD, dif_pos h1] at this
   simpa [List.getElem_append, hi] using this
  ·have := h.late i (by omega) (by rw [← h.size]; exact h1)
   rw [Array.getD, dif_pos h1] at this
   simpa [List.getElem_append, hi] using this
theorem Stage.zero {k : Nat} (hB : phaseB md ops 0 k = true) : Stage md ops 0 k (Array.replicate ops.size false) := by
 refine ⟨by simp, fun j _ hj => by simp [Array.getD, hj], fun i hi => by omega, fun i o hi ho hl => ?_⟩
 simp [Array.getD] at hl
theorem Stage.one {k : Nat} (hB : phaseB md ops 1 k = true) (hk : 1 ≤ k) : Stage md ops 1 k ((Array.replicate ops.size false).setIfInBounds 0 true) := by
 obtain ⟨h0, h1, -, -⟩ := phase_parts hB
 refine ⟨by simp, fun j hj hjs => ?_, fun i hi _ => ?_, fun i o hi ho hl e he hb => ?_⟩
 ·rw [getD_set true (by simp; omega), if_neg (by omega)]; simp [Array.getD, hjs]
 ·obtain rfl : i = 0 := by omega
  rw [getD_set false (by simp; omega), if_pos rfl]
 ·by_cases hi0 : i = 0
  ·subst hi0
   obtain ⟨o', ho', hd, -⟩ := h1 0 (by omega)
   rw [ho] at ho'
   obtain rfl := Option.some.inj ho'
   have := hd e he hb
   omega
  ·rw [getD_set false (by simp; omega), if_neg (by omega)] at hl
   simp [Array.getD] at hl
theorem take_extract (lst : List Oper) (k : Nat) : (lst.toArray.extract 0 k) = (lst.take k).toArray := by simp
theorem wpIn_region_phase0 {l id : Nat} {lst : List Oper} {a : Act} {w : World} (C : World → Prop) (k : Nat) (hm : P.follows .mixedOrders = true) (hd : noDefer lst.toArray = true) (hB : phaseB .any lst.toArray 0 k = true) (hns : Region.noSelect (lst.take k).toArray = true)
  (hlex : Region.lexFrom .any (lst.take k).toArray k 0 (Array.replicate k false) = true) (hC : C w.drew)
  (h : wpQuiet P (lst.take k).toArray C (fun a' => ∀ w', C w' → wpAnyIn Fence.wide n P .any lst.toArray Q (lst.length - k) (List.replicate k true ++ List.replicate (lst.length - k) false).toArray a' w') (lst.take k) a) :
  (Code.region id lst.toArray true).wpIn (Fence.wide.inRound l) n P Q a w := by
 obtain ⟨h0, -, -, -⟩ := phase_parts hB
 refine wpIn_region_round hm hd ?_
 have hx := wpAnyIn_phase (n := n) (Q := Q) (C := C) (s := 0) (k := k) (fuel2 := lst.length - k) (listedI := Array.replicate k false) (a := a) (w := w.drew) hB (Stage.zero hB) (by omega) (by simp) (fun i hi => by simp at h0; simp [Array.getD, hi, show i < lst.length from by omega])
  (by rw [take_extract]; exact hns) (by rw [take_extract]; exact hlex) hC (by rw [take_extract]; exact h) (fun a' w' listed hst hall hq hC' => by
   rcases hst.lit hall with e | e
   ·rw [e]; simpa using hq w' hC'
   ·omega)
 rwa [show k - 0 + (lst.length - k) = lst.toArray.size from by simp at h0 ⊢; omega] at hx
theorem wpIn_region_phase1 {l id : Nat} {x : Operand} {o0 : Oper} {rest : List Oper} {a : Act} {w : World} (C : World → Prop) (k : Nat) (v : Value) (hv : a.eval x = v) (hm : P.follows .mixedOrders = true) (ho : o0.op = .move x) (hg : o0.guard = none) (hd : noDefer (o0 :: rest).toArray = true) (hs : Region.noSelect (o0 :: rest).toArray = true)
  (hf : Region.free .any (o0 :: rest).toArray (Array.replicate (o0 :: rest).toArray.size false) 0 = true) (hr : (Region.ready .any (o0 :: rest).toArray (Array.replicate (o0 :: rest).toArray.size false)).contains 0 = true)
  (hQ : ∀ c a' w', Q (.panic c) (a'.put o0.dst v) w' → Q (.panic c) a' w')
  (hB : phaseB .any (o0 :: rest).toArray 1 k = true) (hk : 1 ≤ k) (hns : Region.noSelect ((o0 :: rest).take k).toArray = true)
  (hlex : Region.lexFrom .any ((o0 :: rest).take k).toArray (k - 1) 1 ((Array.replicate k false).setIfInBounds 0 true) = true) (hC : C w.drew)
  (h : wpQuiet P ((o0 :: rest).take k).toArray C (fun a' => ∀ w', C w' → wpAnyIn Fence.wide n P .any (o0 :: rest).toArray Q ((o0 :: rest).length - k) (List.replicate k true ++ List.replicate ((o0 :: rest).length - k) false).toArray a' w') (rest.take (k - 1)) (a.put o0.dst v)) :
  (Code.region id (o0 :: rest).toArray true).wpIn (Fence.wide.inRound l) n P Q a w := by
 subst hv
 obtain ⟨h0, -, -, -⟩ := phase_parts hB
 refine wpIn_region_round hm hd ?_
 have hx := wpAnyIn_phase (n := n) (Q := Q) (C := C) (s := 1) (k := k) (fuel2 := (o0 :: rest).length - k) (listedI := (Array.replicate k false).setIfInBounds 0 true) (a := a.put o0.dst (a.eval x)) (w := w.drew) hB (Stage.one hB hk) hk (by simp) (fun i hi => by
   rw [getD_set true (by simpa using hi), getD_set true (by simp at h0 ⊢; omega)]
   simp at h0
   simp [Array.getD, hi, show i < rest.length + 1 from by omega])
  (by rw [take_extract]; exact hns) (by rw [take_extract]; exact hlex) hC (by rw [take_extract]; simpa using h) (fun a' w' listed hst hall hq hC' => by
   rcases hst.lit hall with e | e
   ·rw [e]; simpa using hq w' hC'
   ·omega)
 have hsz : (o0 :: rest).toArray.size = (k - 1 + ((o0 :: rest).length - k)) + 1 := by simp at h0 ⊢; omega
 have hw : Region.wanted o0 (yielded (o0 :: rest).toArray a.tmps) = true := by simp [Region.wanted, hg]
 have := wpAnyIn_take (F := Fence.wide) (n := n) (P := P) (Q := Q) (i := 0) (oi := o0) (v := a.eval x) (md := .any) (ops := (o0 :: rest).toArray) (fuel := k - 1 + ((o0 :: rest).length - k)) (listed := Array.replicate (o0 :: rest).toArray.size false) (a := a) (w := w.drew) rfl (by simp) hs hf hr hQ
  ⟨.inl ⟨hw, fun w' => by simp [execOp, ho]⟩, fun w' => by simp [Oper.about, ho]⟩ hx
 rwa [← hsz] at this
theorem append_genIn {F : Fence} {w : World} {rest : List Oper} {o : Oper} {a : Act} (hgd : o.guard = none) (s x : Operand) (t : TypeId)
  (ho : o.op = .call { callee := .builtin .append, args := #[s, x], argTypes := #[t, t] })
  (base : Nat) (e : TypeId) (z : Value) (size bytes : Nat) (ht : P.underlying t = some (.slice e)) (hinfo : (P.info? e).map (fun i => (i.zero, i.size, i.bytes)) = some (some z, size, bytes))
  (hzs : z.cells.size = size) (hsz : 0 < size)
  (A : Option Addr) (c k : Nat) (xs : List Value) (hs : a.eval s = .slice A k c) (hown : w.ownsRow base e size (.slice A k c) k xs)
  (B : Option Addr) (m d : Nat) (news : List Value) (hx : a.eval x = .slice B m d) (hl : news.length = m * size) (hB : B = none → d = 0) (hmd : m ≤ d)
  (hnews : ∀ ad, B = some ad → ∀ j u, news[j]? = some u → w.cell? (ad.add j) = some u) (h1 : ∀ u ∈ news, u.oneCell' = true)
  (h63 : k + m ≤ maxLen) (hbytes : (k + m) * bytes ≤ 140737488355328) (hbase : base ≤ w.heap.size)
  (h : ∀ A' c' w', w'.ownsRow base e size (.slice A' (k + m) c') (k + m) (xs ++ news) → Chg (Of A) w w' → (∀ j, Of A' j → Of A j ∨ w.heap.size ≤ j) → wpListIn F n P ops Q rest (a.put o.dst (.slice A' (k + m) c')) w') :
  wpListIn F n P ops Q (o :: rest) a w := by
 refine wpListIn_plain hgd fun K hK' => ?_
 obtain ⟨A', c', w', hr, h2, h3, h4⟩ := run_append_gen (P := P) base t o.type e z size bytes ht hinfo hzs hsz A c k xs hown B m d news hl hB hmd hnews h1 h63 hbytes hbase
 unfold Oper.wpIn
 refine ⟨?_, ?_⟩
 ·simp [Oper.about, ho, resolve, Target.leads, Sem.run_pure]
 ·rw [Oper.semAt_plain F _ _ (by rw [ho]; intro c hc'; cases hc')]
  simp only [execOp, ho, resolve, invoke, builtin, Sem.run_bind, Sem.run_pure, Result.andThen_ok, List.map_toArray, List.map_cons, List.map_nil, hs, hx, hr]
  exact hK' _ _ (h A' c' w' h2 h3 h4)
end
end Go.Proofs.YtoelilejohfglaaGreat
namespace Go.Proofs.YtoelilejohfglaaGreat
open Go.RowKit
set_option linter.unusedVariables false
set_option linter.unusedSimpArgs false
attribute [local go_sem] Oper.semAt_some
def blkNB (sums each : Nat) : Nat := (sums - 1) / each + 1
def blkMany (sums each b : Nat) : Nat := min each (sums - b * each)
def blkAt (each b : Nat) : Nat := b * each
def blkEnc (sums each : Nat) (b : Fin (blkNB sums each)) : Array Value := #[.int .i64 ((blkAt each b.val : Nat) : Int), .int .i64 ((blkMany sums each b.val : Nat) : Int)]
theorem blk_lt {sums each b : Nat} (hs : 1 ≤ sums) (he : 1 ≤ each) (hb : b < blkNB sums each) : b * each < sums := by
 unfold blkNB at hb
 have h1 : b ≤ (sums - 1) / each := by omega
 have h2 := (Nat.le_div_iff_mul_le (by omega : 0 < each)).1 h1
 omega
theorem blk_end {sums each : Nat} (hs : 1 ≤ sums) (he : 1 ≤ each) : sums ≤ blkNB sums each * each := by
 unfold blkNB
 have h := Nat.div_add_mod (sums - 1) each
 have h2 := Nat.mod_lt (sums - 1) (show 0 < each by omega)
 rw [Nat.add_mul, Nat.one_mul, Nat.mul_comm]
 omega
theorem finR_take {NB b : Nat} (h : b < NB) : (List.finRange NB).take (b + 1) = (List.finRange NB).take b ++ [⟨b, h⟩] := by
 rw [List.take_succ_eq_append_getElem (by simpa using h)]
 simp
def BlkInv (sums each : Nat) (Kp : World → World → Prop) (W : World) (J : List (Fin (blkNB sums each)) → World → Prop) (av : Value) (wr : World) : Prop :=
 ∃ b at_ : Nat, b ≤ blkNB sums each ∧ av = .int .i64 at_ ∧ Hid (at_ = min (b * each) sums) ∧ Hid (J ((List.finRange (blkNB sums each)).take b) wr) ∧ Kp W wr
structure KeepsBoxes (B1 B2 : Nat) (Kp : World → World → Prop) : Prop where
 refl : ∀ W, Kp W W
 trans : ∀ {A B C : World}, Kp A B → Kp B C → Kp A C
 one : ∀ {A B : World}, Kp A B → B.cell? ⟨B1, 0, none⟩ = A.cell? ⟨B1, 0, none⟩
 two : ∀ {A B : World}, Kp A B → B.cell? ⟨B2, 0, none⟩ = A.cell? ⟨B2, 0, none⟩
theorem go_boxes {Kp : World → World → Prop} {B1 B2 sums each : Nat} {W wr : World} (hK : KeepsBoxes B1 B2 Kp) (h1 : W.cell? ⟨B1, 0, none⟩ = some (.int .i64 sums)) (h2 : W.cell? ⟨B2, 0, none⟩ = some (.int .i64 each)) (h : Kp W wr) :
  wr.cell? ⟨B1, 0, none⟩ = some (.int .i64 sums) ∧ wr.cell? ⟨B2, 0, none⟩ = some (.int .i64 each) :=
 ⟨(hK.one h).trans h1, (hK.two h).trans h2⟩
theorem blocks1_in (n : Nat) (hn : 1 ≤ n) (l sums each B1 B2 : Nat) (Kp : World → World → Prop) (hK : KeepsBoxes B1 B2 Kp) (hs : 1 ≤ sums) (he : 1 ≤ each) (hs9 : sums ≤ 1000000000) (he9 : each ≤ 1000000000) (J Jx : List (Fin (blkNB sums each)) → World → Prop)
  (hY : ∀ pre x W, J pre W → pre.length < blkNB sums each → YieldAt Fence.wide (n - 1) Tryz.prog l (blkEnc sums each x) W fun e W' =>
   (e = .returned (.bool true) ∧ J (pre ++ [x]) W' ∧ Kp W W') ∨ (e = .returned (.bool false) ∧ Jx (pre ++ [x]) W'))
  (W : World) (h1 : W.cell? ⟨B1, 0, none⟩ = some (.int .i64 sums)) (h2 : W.cell? ⟨B2, 0, none⟩ = some (.int .i64 each)) (h0 : J [] W) :
  CallsIn Fence.wide n Tryz.prog 195 #[.func (.yield l) #[] #[], .pointer (some ⟨B1, 0, none⟩), .pointer (some ⟨B2, 0, none⟩)] W fun e W' => (∃ v, e = .returned v) ∧
   ((∃ ys, ys = List.finRange (blkNB sums each) ∧ J ys W') ∨ (∃ pre, True ∧ Jx pre W')) := by
 refine callsIn_of_wp Tryz.func195 rfl trivial ?_ rfl
 simp only [Tryz.ntmps195, List.size_toArray, List.length_cons, List.length_nil, Nat.reduceAdd, Nat.reduceSub, Array.replicate_succ, Array.replicate_zero, List.push_toArray, List.append_toArray, List.nil_append, List.cons_append]
 have hYh := hid hY
 have h0h := hid h0
 have h1h := hid h1
 have h2h := hid h2
 clear hY h0 h1 h2
 gi_wp2
 gi_loopw [4] (fun av wr => BlkInv sums each Kp W J av wr) (fun av _ => sums - (intOf av).toNat)
 case atStart => exact ⟨0, 0, Nat.zero_le _, rfl, hid (by simp), hid h0h.out, hK.refl _⟩
 case round =>
  obtain ⟨b, at_, hb, rfl, hat, hJ, hbel⟩ := hrel
  obtain ⟨c1, c2⟩ := go_boxes hK h1h.out h2h.out hbel
  by_cases hlt : b < blkNB sums each
  ·have hl := blk_lt hs he hlt
   have hat2 : at_ = b * each := by rw [hat.out]; omega
   obtain ⟨fn, tmps, assign, body, hy, hR⟩ := hYh.out _ ⟨b, hlt⟩ wr hJ.out (by simp; omega)
   have hnx := hid (show (min ((b + 1) * each) sums : Nat) = at_ + blkMany sums each b from by rw [hat2, Nat.add_mul, Nat.one_mul]; unfold blkMany; omega)
   have hmn : blkMany sums each b = min each (sums - at_) := by rw [hat2]; rfl
   have hpos : 1 ≤ blkMany sums each b := by rw [hmn]; omega
   have hy2 := hid hy
   unfold blkEnc at hy
   rw [show blkAt each b = at_ from hat2.symm] at hy
   simp only [] at hy
   have hJn := hid (fun W3 (h : J ((List.finRange (blkNB sums each)).take b ++ [⟨b, hlt⟩]) W3) => show J ((List.finRange (blkNB sums each)).take (b + 1)) W3 from by rw [finR_take hlt]; exact h)
   have hRh := hid hR
   have hats : (at_ : Int) < (sums : Int) := by omega
   have hbelh := hid hbel
   obtain ⟨many, hmany⟩ : ∃ many, many = blkMany sums each b := ⟨_, rfl⟩
   rw [← hmany] at hy hnx hmn hpos
   clear hR hbel hl hy2 hmany
   replace hat2 := hid hat2
   rcases Nat.lt_or_ge (sums - at_) each with hc | hc
   ·have hm2 : (many : Int) = (sums : Int) - (at_ : Int) := by omega
    have hci : (sums : Int) - (at_ : Int) < (each : Int) := by omega
    have hpI := hid hpos
    have hsum := hid (show (at_ : Int) + (many : Int) = (sums : Int) by omega)
    rw [hm2] at hy
    replace hc := hid hc
    have hs9I : (sums : Int) ≤ 1000000000 := by omega
    have hat0 : (0 : Int) ≤ (at_ : Int) := by omega
    clear hmn hpos hs he he9 hs9 hm2
    gi_wp2
    refine hRh.out.mono ?_
    rintro e W3 (⟨rfl, hJ3, hk3⟩ | ⟨rfl, hJx3⟩)
    ·obtain ⟨c1', c2'⟩ := go_boxes hK h1h.out h2h.out (hK.trans hbelh.out hk3)
     have hb3 := hid (hK.trans hbelh.out hk3)
     have hJ4 := hid (hJn.out W3 hJ3)
     clear hJ3 hk3
     gi_wp2
     go_roundw
     case rel => exact ⟨b + 1, at_ + many, hlt, (by have := hsum.out; congr 1; omega), hid hnx.out.symm, hJ4, hb3.out⟩
     case measure => have := hpI.out; have := hsum.out; simp [intOf]; omega
    ·gi_wp2
     refine bodyPost_ret (results_none rfl _ _ _) rfl ?_
     exact ⟨⟨_, rfl⟩, .inr ⟨_, trivial, hJx3⟩⟩
   ·obtain rfl : many = each := by omega
    have hci : (many : Int) ≤ (sums : Int) - (at_ : Int) := by omega
    have hpI := hid hpos
    replace hc := hid hc
    clear hmn hpos hs he he9
    have hs9I : (sums : Int) ≤ 1000000000 := by omega
    have hat0 : (0 : Int) ≤ (at_ : Int) := by omega
    clear hs9
    gi_wp2
    refine hRh.out.mono ?_
    rintro e W3 (⟨rfl, hJ3, hk3⟩ | ⟨rfl, hJx3⟩)
    ·obtain ⟨c1', c2'⟩ := go_boxes hK h1h.out h2h.out (hK.trans hbelh.out hk3)
     have hb3 := hid (hK.trans hbelh.out hk3)
     have hJ4 := hid (hJn.out W3 hJ3)
     clear hJ3 hk3
     gi_wp2
     go_roundw
     case rel => exact ⟨b + 1, at_ + many, hlt, by go_num, hid hnx.out.symm, hJ4, hb3.out⟩
     case measure => have := hpI.out; simp [intOf]; omega
    ·gi_wp2
     refine bodyPost_ret (results_none rfl _ _ _) rfl ?_
     exact ⟨⟨_, rfl⟩, .inr ⟨_, trivial, hJx3⟩⟩
  ·have hbe : b = blkNB sums each := by omega
   have hend := blk_end hs he
   have hat3 : at_ = sums := by rw [hat.out, hbe]; omega
   subst hat3
   have hJe := hid (show J (List.finRange (blkNB at_ each)) wr from by have := hJ.out; rw [hbe, List.take_of_length_le (by simp)] at this; exact this)
   have hd : decide ((at_ : Int) < (at_ : Int)) = false := decide_eq_false (by omega)
   clear hend hat hbe hb hJ
   gi_wp2
   go_end0
   exact ⟨⟨_, rfl⟩, .inl ⟨_, rfl, hJe.out⟩⟩
theorem blocks_stops (n : Nat) (hn : 1 ≤ n) (sums each B1 B2 : Nat) (Kp : World → World → Prop) (hK : KeepsBoxes B1 B2 Kp) (hs : 1 ≤ sums) (he : 1 ≤ each) (hs9 : sums ≤ 1000000000) (he9 : each ≤ 1000000000) (w : World) (hb1 : B1 < w.heap.size) (hb2 : B2 < w.heap.size)
  (h1 : w.cell? ⟨B1, 0, none⟩ = some (.int .i64 sums)) (h2 : w.cell? ⟨B2, 0, none⟩ = some (.int .i64 each)) :
  SeqStopsK Fence.wide n Tryz.prog 195 #[.pointer (some ⟨B1, 0, none⟩), .pointer (some ⟨B2, 0, none⟩)] (blkEnc sums each) Kp (fun ys => ys = List.finRange (blkNB sums each)) (fun _ => True) (blkNB sums each) w := fun l J Jx W hW _ _ hY h0 =>
 blocks1_in n hn l sums each B1 B2 Kp hK hs he hs9 he9 J Jx hY W ((hW.cell (p := ⟨B1, 0, none⟩) hb1).trans h1) ((hW.cell (p := ⟨B2, 0, none⟩) hb2).trans h2) h0
theorem blocks_any (sums each : Int) (w : World) : Calls Tryz.prog 181 #[.int .i64 sums, .int .i64 each] w fun e w' => e = .returned (.func (.func 195) #[] #[.pointer (some ⟨w.heap.size, 0, none⟩), .pointer (some ⟨w.heap.size + 1, 0, none⟩)]) ∧ w' = (w.alloc (.cells #[.int .i64 sums] 3)).alloc (.cells #[.int .i64 each] 3) := by
 go_enter Tryz.func181, Tryz.ntmps181
 go_wp2
 go_ret
 exact ⟨rfl, rfl⟩
end Go.Proofs.YtoelilejohfglaaGreat
namespace Go.Proofs.YtoelilejohfglaaGreat
open Go.RowKit
set_option linter.unusedVariables false
set_option linter.unusedSimpArgs false
open Go.RowKit Go.Shelf
attribute [local go_sem] Oper.semAt_some
def threeV (k : Nat) (gs : Nat → Nat) (n c : Nat) (j : Nat) : Value := if j < k then .slice (some ⟨gs j, 0, none⟩) n c else .slice none 0 0
def Three (w : World) (b k : Nat) (gs : Nat → Nat) (n c : Nat) : Prop := Blk w b #[threeV k gs n c 0, threeV k gs n c 1, threeV k gs n c 2] 171
theorem Three.cell {w : World} {b k : Nat} {gs : Nat → Nat} {n c : Nat} (h : Three w b k gs n c) {j : Nat} (hj : j < 3) : w.cell? ⟨b, j, none⟩ = some (threeV k gs n c j) := by
 rcases (by omega : j = 0 ∨ j = 1 ∨ j = 2) with rfl | rfl | rfl <;> exact Blk.cell h _ rfl
theorem Three.chg {S : Nat → Prop} {w w' : World} {b k : Nat} {gs : Nat → Nat} {n c : Nat} (h : Three w b k gs n c) (hc : Chg S w w') (hn : ¬ S b) : Three w' b k gs n c := Blk.chg h hc hn
theorem Three.free {w : World} {b k : Nat} {gs : Nat → Nat} {n c : Nat} (h : Three w b k gs n c) (j : Nat) : w.frozen? ⟨b, j, none⟩ = false := Blk.free h j
theorem Three.lt {w : World} {b k : Nat} {gs : Nat → Nat} {n c : Nat} (h : Three w b k gs n c) : b < w.heap.size := Blk.lt h
theorem Three.set {w : World} {b k : Nat} {gs : Nat → Nat} {n c : Nat} (h : Three w b k gs n c) (hk : k < 3) (g : Nat) : Three (w.setCell ⟨b, k, none⟩ (.slice (some ⟨g, 0, none⟩) n c)) b (k + 1) (fun j => if j = k then g else gs j) n c := by
 have h1 := Blk.set h k (.slice (some ⟨g, 0, none⟩) n c)
 unfold Three
 rcases (by omega : k = 0 ∨ k = 1 ∨ k = 2) with rfl | rfl | rfl <;> simpa [threeV] using h1
theorem Three.set2 {w : World} {b k : Nat} {gs : Nat → Nat} {n c : Nat} (h : Three w b k gs n c) (hk : k < 3) (g : Nat) (u : Value) : Three ((w.setCell ⟨b, k, none⟩ u).setCell ⟨b, k, none⟩ (.slice (some ⟨g, 0, none⟩) n c)) b (k + 1) (fun j => if j = k then g else gs j) n c := by
 have h1 := Blk.set (Blk.set h k u) k (.slice (some ⟨g, 0, none⟩) n c)
 unfold Three
 rcases (by omega : k = 0 ∨ k = 1 ∨ k = 2) with rfl | rfl | rfl <;> simpa [threeV] using h1
theorem Three.new (w : World) (n c : Nat) : Three (w.alloc (.cells #[.slice none 0 0, .slice none 0 0, .slice none 0 0] 171)) w.heap.size 0 (fun _ => 0) n c := Blk.new w _ _
def RowsOf (w : World) (lo k S : Nat) (gs : Nat → Nat) (f : Nat → Nat → Int) : Prop := ∀ j, j < k → lo ≤ gs j ∧ FBlk w (gs j) S (f j) 82
theorem RowsOf.chg {S' : Nat → Prop} {w w' : World} {lo k S : Nat} {gs : Nat → Nat} {f : Nat → Nat → Int} (h : RowsOf w lo k S gs f) (hc : Chg S' w w') (hn : ∀ i, lo ≤ i → i < w.heap.size → ¬ S' i) : RowsOf w' lo k S gs f := fun j hj => ⟨(h j hj).1, (h j hj).2.chg hc (hn _ (h j hj).1 (h j hj).2.lt)⟩
theorem RowsOf.set {w : World} {lo k S : Nat} {gs : Nat → Nat} {f : Nat → Nat → Int} (h : RowsOf w lo k S gs f) {g : Nat} (hg : lo ≤ g) (hB : FBlk w g S (f k) 82) : RowsOf w lo (k + 1) S (fun j => if j = k then g else gs j) f := fun j hj => by
 by_cases hjk : j = k
 ·subst hjk; simp only [if_true]; exact ⟨hg, hB⟩
 ·simp only [if_neg hjk]; exact h j (by omega)
theorem dft_list (S : Nat) (f : Nat → Int) (x : Int) (q : Nat) : dftV S (fun i => ((List.range S).map fun i => f (0 + i)).getD i 0) x q = dftV S f x q := by
 unfold dftV
 refine sumN_congr fun i hi => ?_
 show ((List.range S).map fun i => f (0 + i)).getD i 0 * x ^ (i * q) = f i * x ^ (i * q)
 rw [show ((List.range S).map fun i => f (0 + i)).getD i 0 = f i from by simp [hi]]
theorem getD_mem_or {l : List Int} {P : Int → Prop} (h0 : P 0) (h : ∀ z ∈ l, P z) (i : Nat) : P (l.getD i 0) := by
 by_cases hi : i < l.length
 ·exact h _ (by simp [hi])
 ·rwa [show l.getD i 0 = 0 from by simp; rw [List.getElem?_eq_none (by omega)]; rfl]
theorem foldl_max_ge : ∀ (l : List Int) (a : Int), a ≤ l.foldl max a
 | [], a => Int.le_refl a
 | x :: l, a => Int.le_trans (show a ≤ max a x by omega) (foldl_max_ge l _)
theorem maxT_nonneg (l : List Int) (k : Nat) : 0 ≤ maxT l k := foldl_max_ge _ _
def Cor1 (w1 : World) (b12 S : Nat) (f : Nat → Nat → Int) (kv : Value) (wr : World) : Prop := ∃ (k : Nat) (gs : Nat → Nat), k ≤ 3 ∧ kv = .int .i64 k ∧ Three wr b12 k gs S S ∧ RowsOf wr (b12 + 1) k S gs f ∧ Chg (One b12) w1 wr
def Cor2 (Wb : World) (b17 many S : Nat) (f : Nat → Nat → Int) (kv : Value) (wr : World) : Prop := ∃ (k : Nat) (gs : Nat → Nat), k ≤ 3 ∧ kv = .int .i64 k ∧ Three wr b17 k gs many S ∧ RowsOf wr (b17 + 1) k S gs f ∧ Chg (One b17) Wb wr
def Cor3 (Wk : World) (gx S : Nat) (P : Int) (x y : Nat → Int) (iv : Value) (wr : World) : Prop := ∃ i : Nat, i ≤ S ∧ iv = .int .i64 i ∧ FBlk wr gx S (fun q => if q < i then x q * y q % P else x q) 82 ∧ Chg (One gx) Wk wr
theorem run_three_no {P : Program} {t : TypeId} (ht : P.underlying t = some (.slice (P.elem t))) (hs : ∀ w, (sizeOf (P.elem t)).run P w = .ok 1 w) (g o n c : Nat) (z y : Int) (lo hi : Nat) (hz : z = lo) (hy : y = hi) (h1 : lo ≤ hi) (h2 : hi ≤ c) (h4 : lo < c) :
  ∀ W, (Instr.slice t (.slice (some ⟨g, o, none⟩) n c) (some (.int .i64 z)) (some (.int .i64 y)) none).run P W = .ok (.slice (some ⟨g, o + lo, none⟩) (hi - lo) (c - lo)) W := by
 intro W
 subst hz
 rw [hy, run_slice_lh (w := W) t _ n c ht .i64 .i64 (lo : Int) (hi : Int) (by omega) (by omega) (by omega), hs]
 simp [sliced, Result.andThen, Addr.add]
 rw [if_neg (by omega)]
 split
 ·rename_i h; rw [h]; simp
 ·rfl
theorem run_head {P : Program} {t : TypeId} (ht : P.underlying t = some (.slice (P.elem t))) (hs : ∀ w, (sizeOf (P.elem t)).run P w = .ok 1 w) (g n c : Nat) (y : Int) (hi : Nat) (hy : y = hi) (h2 : hi ≤ c) :
  ∀ W, (Instr.slice t (.slice (some ⟨g, 0, none⟩) n c) none (some (.int .i64 y)) none).run P W = .ok (.slice (some ⟨g, 0, none⟩) hi c) W := by
 intro W
 subst hy
 rw [run_slice_h (w := W) t _ n c ht .i64 (hi : Int) (by omega) (by omega), hs]
 simp [sliced, Result.andThen, Addr.add]
theorem sub_els {F : Nat → Prop} {w : World} {g o n c : Nat} {l : List Int} (h : U64At F w (some ⟨g, o, none⟩) n c l) (lo len : Nat) (hl : lo + len ≤ n) (h1 : 1 ≤ len) : U64At F w (some ⟨g, o + lo, none⟩) len (c - lo) ((l.drop lo).take len) := by
 refine ⟨(fun e => by cases e), by have := h.2.1; omega, by have := h.2.2.1; omega, by have := h.2.2.2.1; simp; omega, fun _ => ?_⟩
 obtain ⟨g', o', e, hF, hlt, hc⟩ := h.2.2.2.2 (by omega)
 injection e with e
 injection e with e1 e2
 subst e1 e2
 refine ⟨_, _, rfl, hF, hlt, fun j hj => ?_⟩
 have := hc (lo + j) (by omega)
 rw [show o + (lo + j) = o + lo + j from by omega] at this
 rw [this]
 simp [List.getD, hj]
theorem sub_getD (l : List Int) (lo len q S : Nat) (hlen : len = min l.length (lo + S) - lo) (hq : q < S) : ((l.drop lo).take len).getD q 0 = l.getD (lo + q) 0 := by
 simp only [List.getD, List.getElem?_take, List.getElem?_drop]
 by_cases h : q < len
 ·rw [if_pos h]
 ·rw [if_neg h, List.getElem?_eq_none (by omega)]
def blkVals (sums each : Nat) (N : Nat → Int) (pre : List (Fin (blkNB sums each))) : List Value := pre.flatMap fun b => (List.range (blkMany sums each b.val)).map fun i => .int .u64 (N (b.val * each + i))
theorem blkVals_snoc (sums each : Nat) (N : Nat → Int) (pre : List (Fin (blkNB sums each))) (b : Fin (blkNB sums each)) : blkVals sums each N (pre ++ [b]) = blkVals sums each N pre ++ (List.range (blkMany sums each b.val)).map fun i => .int .u64 (N (b.val * each + i)) := by simp [blkVals]
def KeepsBut (Z bo : Nat) (A B : World) : Prop := ∀ k, k < Z → k ≠ bo → B.heap[k]? = A.heap[k]?
theorem keepsBut_boxes {Z bo B1 B2 : Nat} (h1 : B1 < Z) (h2 : B2 < Z) (n1 : B1 ≠ bo) (n2 : B2 ≠ bo) : KeepsBoxes B1 B2 (KeepsBut Z bo) :=
 ⟨fun _ _ _ _ => rfl, fun h k j hj hn => (k j hj hn).trans (h j hj hn), fun h => World.cell?_of_block (h B1 h1 n1), fun h => World.cell?_of_block (h B2 h2 n2)⟩
def CorI (W0 : World) (bo sums each : Nat) (N : Nat → Int) (pre : List (Fin (blkNB sums each))) (W : World) : Prop :=
 ∃ (A : Option Addr) (L c : Nat), Blk W bo #[.slice A L c] 134 ∧ W.ownsRow W0.heap.size 82 1 (.slice A L c) L (blkVals sums each N pre) ∧ Chg (One bo) W0 W
theorem own_cells {w : World} {base : Nat} {e : TypeId} {sz n c : Nat} {A : Option Addr} {xs : List Value} (h : w.ownsRow base e sz (.slice A n c) n xs) : ∀ k, Of A k → ∃ o : Obj, w.heap[k]? = some o ∧ o.isCells = true := fun k hk => by
 rcases h.2 with ⟨e1, -⟩ | ⟨g, cap, cur, e1, hb, hg, rest⟩
 ·injection e1 with e1; subst e1; obtain ⟨a, ha, -⟩ := hk; cases ha
 ·injection e1 with e1; subst e1
  obtain ⟨a, ha, rfl⟩ := hk
  injection ha with ha; subst ha
  exact ⟨_, hg, rfl⟩
theorem CorI_own (W0 : World) (bo sums each : Nat) (N : Nat → Int) (hbo : bo < W0.heap.size) : OwnFrom W0.heap.size (CorI W0 bo sums each N) := fun s X Y row hs hg hr => by
 obtain ⟨A, L, c, hB, hO, hC⟩ := hs
 have hch : Chg (fun k => row = some k) X Y := Chg.of_grownBy hg (fun k h _ => h)
 refine ⟨A, L, c, hB.chg hch (fun e => ?_), own_chg hO hch (fun k hk e => ?_), hC.then hch (fun i hi e => ?_)⟩
 ·have := (hr _ e).1; omega
 ·obtain ⟨-, o, ho, hc⟩ := hr _ e
  obtain ⟨o', ho', hc'⟩ := own_cells hO k hk
  rw [ho] at ho'
  obtain rfl := Option.some.inj ho'
  rw [hc] at hc'
  cases hc'
 ·have := (hr _ e).1; omega
theorem blkVals_len (sums each : Nat) (N : Nat → Int) : ∀ pre : List (Fin (blkNB sums each)), (blkVals sums each N pre).length ≤ pre.length * each
 | [] => by simp [blkVals]
 | b :: pre => by
  have ih := blkVals_len sums each N pre
  have e : (blkVals sums each N (b :: pre)).length = blkMany sums each b.val + (blkVals sums each N pre).length := by simp [blkVals]
  have h : blkMany sums each b.val ≤ each := Nat.min_le_left _ _
  rw [e, List.length_cons, Nat.succ_mul]
  omega
theorem blkVals_take {sums each : Nat} (N : Nat → Int) (hs : 1 ≤ sums) (he : 1 ≤ each) : ∀ b, b ≤ blkNB sums each → blkVals sums each N ((List.finRange (blkNB sums each)).take b) = (List.range (min (b * each) sums)).map fun i => .int .u64 (N i)
 | 0, _ => by simp [blkVals]
 | b + 1, h => by
  have hlt := blk_lt hs he (show b < blkNB sums each by omega)
  rw [finR_take (show b < blkNB sums each by omega), blkVals_snoc, blkVals_take N hs he b (by omega), show min ((b + 1) * each) sums = b * each + blkMany sums each b from by rw [Nat.add_mul, Nat.one_mul]; unfold blkMany; omega, show min (b * each) sums = b * each from by omega, List.range_add, List.map_append, List.map_map]
  rfl
theorem blkVals_all {sums each : Nat} (N : Nat → Int) (hs : 1 ≤ sums) (he : 1 ≤ each) : blkVals sums each N (List.finRange (blkNB sums each)) = (List.range sums).map fun i => .int .u64 (N i) := by
 have h := blkVals_take N hs he (blkNB sums each) (Nat.le_refl _)
 rw [List.take_of_length_le (by simp), show min (blkNB sums each * each) sums = sums from by have := blk_end hs he; omega] at h
 exact h
theorem own_lower {w : World} {b b' : Nat} {e : TypeId} {sz n c : Nat} {A : Option Addr} {vs : List Value} (h : w.ownsRow b e sz (.slice A n c) n vs) (hb : b' ≤ b) : w.ownsRow b' e sz (.slice A n c) n vs := by
 refine ⟨h.1, ?_⟩
 rcases h.2 with hn | ⟨g, cap, cur, e1, hb1, rest⟩
 ·exact .inl hn
 ·exact .inr ⟨g, cap, cur, e1, by omega, rest⟩
theorem blkNB_le (sums each : Nat) : blkNB sums each ≤ sums + 1 := by unfold blkNB; have := Nat.div_le_self (sums - 1) each; omega
theorem body_done {W w9 : World} {Z bo L c1 : Nat} {A1 : Option Addr} {T : TypeId} {xs : List Value} (hz : Z ≤ W.heap.size) (hbo : bo < Z) (hO : W.ownsRow Z T 1 (.slice A1 L c1) L xs) (h : Chg (fun j => Of A1 j ∨ j = bo) W w9) : KeepsFrom Z W w9 ∧ KeepsBut Z bo W w9 :=
 ⟨⟨h.size, fun k o hk ho hc => by
  have hlt : k < W.heap.size := (Array.getElem?_eq_some_iff.1 ho).1
  rw [h.block k hlt (fun e => ?_)]
  ·exact ho
  ·rcases e with e | e
   ·obtain ⟨o', ho', hc'⟩ := own_cells hO k e
    rw [ho] at ho'
    obtain rfl := Option.some.inj ho'
    rw [hc] at hc'; cases hc'
   ·omega⟩, fun k hk hn => h.block k (Nat.lt_of_lt_of_le hk hz) (fun e => by
  rcases e with e | e
  ·have := (own_of hO k e).1; omega
  ·exact hn e)⟩
theorem correlate_any (F G : Nat → Prop) (A B : Option Addr) (m ca n cb M S : Nat) (lp lt : List Int) (x y : Int) (w : World) (HA : U64At F w A m ca lp) (HB : U64At G w B n cb lt) (hF : ∀ k, F k → k < w.heap.size) (hG : ∀ k, G k → k < w.heap.size)
  (h1 : 1 ≤ m) (h2 : m ≤ n) (hn9 : n ≤ 1000000000) (hM : M ≤ 12) (hS : S = 2 ^ M) (hmS : m ≤ S)
  (hx : ∀ z ∈ lp, 0 ≤ z ∧ z ≤ x) (hy : ∀ z ∈ lt, 0 ≤ z ∧ z ≤ y) (hx0 : 0 ≤ x) (hy0 : 0 ≤ y) (hb1 : x * y ≤ 18446744073709551615) (hb2 : x * y * m ≤ 18446744073709551615) :
  Calls Tryz.prog 150 #[.slice A m ca, .slice B n cb, .int .i64 (S : Nat)] w fun e w' => ∃ A' c', e = .returned (.tuple #[.slice A' (n - m + 1) c', .int .i64 (countS m n S), .int .i64 0]) ∧ URow w' w.heap.size A' (n - m + 1) c' (slideN m (fun j => lp.getD j 0) (fun j => lt.getD j 0)) ∧ Chg Nothing w w' := by
 have hS4 : S ≤ 4096 := by rw [hS, show 4096 = 2 ^ 12 from rfl]; exact Nat.pow_le_pow_right (by decide) hM
 have hsl : slidesB m n = true := by unfold slidesB; simp; omega
 have hsz : sizedB m S = true := by
  unfold sizedB
  rw [show logS (S : Int) = some M from logS_some.2 ⟨hM, by rw [hS, Int.natCast_pow]; rfl⟩]
  simp; omega
 have hHA := hid (fun (w' : World) (hc : Chg Nothing w w') => HA.chg hc (fun _ _ _ h => h))
 have hHB := hid (fun (w' : World) (hc : Chg Nothing w w') => HB.chg hc (fun _ _ _ h => h))
 have hmxl := maxT_le lp m x hx0 (fun z hz => (hx z hz).2)
 have hmyl := maxT_le lt n y hy0 (fun z hz => (hy z hz).2)
 have hmx1 : maxT lp m * maxT lt n ≤ 18446744073709551615 := Int.le_trans (Int.mul_le_mul hmxl hmyl (maxT_nonneg lt n) hx0) hb1
 have hmx2 : maxT lp m * maxT lt n * m ≤ 18446744073709551615 := Int.le_trans (Int.mul_le_mul_of_nonneg_right (Int.mul_le_mul hmxl hmyl (maxT_nonneg lt n) hx0) (by omega)) hb2
 have hCk := hid (fun (w' : World) (hc : Chg Nothing w w') => blkCheck_ok F G A B m ca n cb lp lt S (maxT lp m) (maxT lt n) w' (hHA.out w' hc) (hHB.out w' hc) hsl hsz rfl rfl (maxT_nonneg lp m) (maxT_nonneg lt n) hmx1 hmx2)
 have hSl := hid (fun w => slides_any m n w)
 rw [hsl] at hSl
 have hTu := hid (fun (w' : World) (hc : Chg Nothing w w') => turned_any F A m ca lp S w' (hHA.out w' hc) hmS (by omega))
 have hFw := hid (fun (k : Nat) (hk : k < 3) (g : Nat) (f : Nat → Int) (hf : ∀ q, 0 ≤ f q) (w' : World) (hB' : FBlk w' g S f 82) =>
  (nttForward_any k M hk hM (fun j => j = g) (some ⟨g, 0, none⟩) S S _ w' (hB'.els 0 S S (by omega) (Nat.le_refl _) (by omega)) (fun j hj => hj ▸ hB'.lt) hS (fun z hz => by obtain ⟨i, -, rfl⟩ := List.mem_map.1 hz; exact hf _)).mono
   (fun e w'' ⟨g', he, hg, hB, hc⟩ => (⟨g', he, hg, hB.congr (f' := fun q => dftV S f (rootW k M) q % (prm k : Nat)) (fun q _ => by rw [dft_list]), hc⟩ : ∃ g', e = Ending.returned (.tuple #[.slice (some ⟨g', 0, none⟩) S S, .int .i64 0]) ∧ w'.heap.size ≤ g' ∧ FBlk w'' g' S (fun q => dftV S f (rootW k M) q % (prm k : Nat)) 82 ∧ Chg Nothing w' w'')))
 have hlp0 : ∀ i, 0 ≤ lp.getD i 0 := fun i => getD_mem_or (P := fun z => 0 ≤ z) (by omega) (fun z hz => (hx z hz).1) i
 have hNb9 := hid (fun i => slide_bounds m (fun j => lp.getD j 0) (fun j => lt.getD j 0) x y (fun j => ⟨getD_mem_or (P := fun z => 0 ≤ z) (by omega) (fun z hz => (hx z hz).1) j, getD_mem_or (P := fun z => z ≤ x) hx0 (fun z hz => (hx z hz).2) j⟩) (fun j => ⟨getD_mem_or (P := fun z => 0 ≤ z) (by omega) (fun z hz => (hy z hz).1) j, getD_mem_or (P := fun z => z ≤ y) hy0 (fun z hz => (hy z hz).2) j⟩) hb2 i)
 have hlpl := hid HA.2.2.2.1
 have hlt0 : ∀ i, 0 ≤ lt.getD i 0 := fun i => getD_mem_or (P := fun z => 0 ≤ z) (by omega) (fun z hz => (hy z hz).1) i
 replace hlp0 := hid hlp0
 replace hlt0 := hid hlt0
 obtain ⟨sums, hsm⟩ : ∃ sums, sums = n - m + 1 := ⟨_, rfl⟩
 obtain ⟨each, hem⟩ : ∃ each, each = S - m + 1 := ⟨_, rfl⟩
 have hsums := hid (show ((n : Int) - (m : Int) + 1) = (sums : Int) from by omega)
 have heach := hid (show ((S : Int) - (m : Int) + 1) = (each : Int) from by omega)
 rw [← hsm]
 replace hsm := hid hsm
 replace hem := hid hem
 have hBk := hid (fun w => blocks_any ((n : Int) - (m : Int) + 1) ((S : Int) - (m : Int) + 1) w)
 have hn0 : (0 : Int) ≤ (n : Int) := by omega
 have hSh := hid hS
 have hM0 := hM
 clear hS hb1 hb2 hx hy hx0 hy0 HA HB hsl hsz
 refine callsIn_wide.1 (callsIn_of_wp_marks (n := 9) Tryz.func150 rfl trivial ?_ rfl)
 simp only [Tryz.ntmps150, List.size_toArray, List.length_cons, List.length_nil, Nat.reduceAdd, Nat.reduceSub, Array.replicate_succ, Array.replicate_zero, List.push_toArray, List.append_toArray, List.nil_append, List.cons_append]
 refine wpIn_wide.2 ?_
 go_wp2_with fail
 go_region
 all_goals
  have c0 := (((Chg.refl Nothing w).alloc (.cells #[.slice B n cb] 134)).alloc (.cells #[.int .i64 (S : Nat)] 3))
  have b0 := ((Blk.new w #[.slice B n cb] 134).alloc (.cells #[.int .i64 (S : Nat)] 3)).alloc (.cells #[.int .i64 (n : Nat)] 3) |>.chg (Chg.refl Nothing _).drew id
  have b1 := (Blk.new (w.alloc (.cells #[.slice B n cb] 134)) #[.int .i64 (S : Nat)] 3).alloc (.cells #[.int .i64 (n : Nat)] 3) |>.chg (Chg.refl Nothing _).drew id
  have b2 := (Blk.new ((w.alloc (.cells #[.slice B n cb] 134)).alloc (.cells #[.int .i64 (S : Nat)] 3)) #[.int .i64 (n : Nat)] 3).chg (Chg.refl Nothing _).drew id
  have hc0 := (c0.alloc (.cells #[.int .i64 (n : Nat)] 3)).drew
  rw [World.size_alloc] at b1
  rw [World.size_alloc, World.size_alloc] at b2
  clear c0
  generalize (((w.alloc (.cells #[.slice B n cb] 134)).alloc (.cells #[.int .i64 (S : Nat)] 3)).alloc (.cells #[.int .i64 (n : Nat)] 3)).drew = W at b0 b1 b2 hc0 ⊢
  have hb0 := hid b0
  have hb1 := hid b1
  have hb2 := hid b2
  have hC0 := hid hc0
  have x0 := b0.cell 0 (v := .slice B n cb) rfl
  have x1 := b1.cell 0 (v := .int .i64 (S : Nat)) rfl
  have x2 := b2.cell 0 (v := .int .i64 (n : Nat)) rfl
  clear b0 b1 b2 hc0
  go_wp2_with fail
  refine (hCk.out _ hC0.out).mono ?_
  rintro e w1 ⟨rfl, hc1⟩
  have hC1 := hid (hC0.out.trans hc1)
  have hb0' := hid (hb0.out.chg hc1 id)
  have hb1' := hid (hb1.out.chg hc1 id)
  have hb2' := hid (hb2.out.chg hc1 id)
  have x2 := hb2'.out.cell 0 (v := .int .i64 (n : Nat)) rfl
  clear hb0 hb1 hb2 hc1
  go_wp2_with fail
  refine (hSl.out _).mono ?_
  rintro e w2 ⟨rfl, rfl⟩
  go_wp2_with fail
  have hT0 := hid (Three.new w2 S S)
  have hc3 := (Chg.refl Nothing w2).alloc (.cells #[.slice none 0 0, .slice none 0 0, .slice none 0 0] 171)
  have hC3 := hid (hC1.out.trans hc3)
  have hb0 := hid (hb0'.out.chg hc3 id)
  have hb1 := hid (hb1'.out.chg hc3 id)
  have hb2 := hid (hb2'.out.chg hc3 id)
  have hsz3 := hid (show w2.heap.size < (w2.alloc (.cells #[.slice none 0 0, .slice none 0 0, .slice none 0 0] 171)).heap.size from by rw [World.size_alloc]; omega)
  have hlo := hid (show w.heap.size ≤ w2.heap.size from hC1.out.size)
  obtain ⟨b12, hb12⟩ : ∃ b12, b12 = w2.heap.size := ⟨_, rfl⟩
  rw [← hb12] at hT0 hsz3 hlo ⊢
  have hNb := hid (show w.heap.size + 1 + 1 < b12 from by have := hb2'.out.lt; omega)
  clear hc3 x0 x1 x2 hb0' hb1' hb2' hb12 hC1 hC0
  generalize w2.alloc (.cells #[.slice none 0 0, .slice none 0 0, .slice none 0 0] 171) = w3 at hT0 hC3 hb0 hb1 hb2 hsz3 ⊢
  have hCw := hid (fun (wr : World) (hc : Chg (One b12) w3 wr) => Chg.then hC3.out hc (fun i hi e => absurd (show i = b12 from e) (by have := hNb.out; omega)))
  have hBw := hid (fun (wr : World) (hc : Chg (One b12) w3 wr) => And.intro (hb0.out.chg hc (fun e => absurd (show w.heap.size = b12 from e) (by have := hNb.out; omega))) (And.intro (hb1.out.chg hc (fun e => absurd (show w.heap.size + 1 = b12 from e) (by have := hNb.out; omega))) (hb2.out.chg hc (fun e => absurd (show w.heap.size + 1 + 1 = b12 from e) (by have := hNb.out; omega)))))
  go_wp2_with fail
  go_loopw [41] (fun kv wr => Cor1 w3 b12 S (fun j q => dftV S (fun q => lp.getD ((S - q) % S) 0) (rootW j M) q % (prm j : Nat)) kv wr) (fun kv _ => 3 - (intOf kv).toNat)
  case atStart => exact ⟨0, _, by omega, rfl, hT0.out, fun j hj => by omega, Chg.refl _ _⟩
  case round =>
   obtain ⟨k, gs, hk, rfl, hT, hR, hchg⟩ := hrel
   rcases Nat.lt_or_ge k 3 with hk3 | hk3
   ·have hkI : (k : Int) < 3 := by omega
    have hk0 : (0 : Int) ≤ (k : Int) := by omega
    have x1 := (hBw.out _ hchg).2.1.cell 0 (v := .int .i64 (S : Nat)) rfl
    have hCr := hid hchg
    have hTr := hid hT
    have hRr := hid hR
    have hfw := hid (fun g w' hB' => hFw.out k hk3 g (fun q => lp.getD ((S - q) % S) 0) (fun q => hlp0.out _) w' hB')
    have htu := hid (hTu.out _ (hCw.out _ hchg))
    clear hT hR hchg
    go_wp2_with fail
    refine (htu.out).mono ?_
    rintro e w4 ⟨rfl, hB4, hc4⟩
    have hC4 := hid hc4
    have hB4h := hid hB4
    clear hc4 hB4
    go_wp2_with fail
    refine (hfw.out _ _ hB4h.out).mono ?_
    rintro e w5 ⟨g, rfl, hg, hB5, hc5⟩
    have hC5 := hid (hC4.out.trans hc5)
    have hT5 := hTr.out.chg hC5.out id
    have y0 := hT5.cell hk3
    have f0 := hT5.free k
    have hl5 := hT5.lt
    have hgb := hid (show b12 + 1 ≤ g from by have := hTr.out.lt; have := hC4.out.size; omega)
    have hT6 := hid (hT5.set hk3 g)
    have hst := (Chg.refl (One b12) w5).setOne k (.slice (some ⟨g, 0, none⟩) S S)
    have hR6 := hid (((hRr.out.chg hC5.out (fun _ _ _ h => h)).set hgb.out hB5).chg hst (fun i hi _ e => absurd (show i = b12 from e) (by omega)))
    have hC7 := hid ((hCr.out.then hC5.out (fun _ _ h => h.elim)).trans hst)
    clear hT5 hg hB5 hc5 hst
    go_wp2
    go_roundw
    case rel => exact ⟨k + 1, _, hk3, by go_num, hT6.out, hR6.out, hC7.out⟩
    case measure => simp [intOf]; omega
   ·obtain rfl : k = 3 := by omega
    have hd : decide (((3 : Nat) : Int) < 3) = false := by decide
    obtain ⟨y0, y1, y2⟩ := hBw.out _ hchg
    have x1 := (y1.alloc (.cells #[.slice none 0 0] 134)).cell 0 (v := .int .i64 (S : Nat)) rfl
    have x2 := (y2.alloc (.cells #[.slice none 0 0] 134)).cell 0 (v := .int .i64 (n : Nat)) rfl
    have hY := hid (And.intro (y0.alloc (.cells #[.slice none 0 0] 134)) (And.intro (y1.alloc (.cells #[.slice none 0 0] 134)) (y2.alloc (.cells #[.slice none 0 0] 134))))
    have hO := hid (Blk.new wr #[.slice none 0 0] 134)
    clear y0 y1 y2
    have hTr := hid hT
    have hRr := hid hR
    have hCr := hid hchg
    clear hT hR hchg
    go_wp2_with fail
    refine (hBk.out _).mono ?_
    rintro e w6 ⟨rfl, rfl⟩
    go_wp2_with fail
    have hcn := (((Chg.refl Nothing wr).alloc (.cells #[.slice none 0 0] 134)).alloc (.cells #[.int .i64 ((n : Int) - (m : Int) + 1)] 3)).alloc (.cells #[.int .i64 ((S : Int) - (m : Int) + 1)] 3)
    have hCn := hid hcn
    have hc2 := ((Chg.refl Nothing (wr.alloc (.cells #[.slice none 0 0] 134))).alloc (.cells #[.int .i64 ((n : Int) - (m : Int) + 1)] 3)).alloc (.cells #[.int .i64 ((S : Int) - (m : Int) + 1)] 3)
    have hO2 := hid (hO.out.chg hc2 id)
    have hY2 := hid (And.intro (hY.out.1.chg hc2 id) (And.intro (hY.out.2.1.chg hc2 id) (hY.out.2.2.chg hc2 id)))
    have q1 := (Blk.new (wr.alloc (.cells #[.slice none 0 0] 134)) #[.int .i64 ((n : Int) - (m : Int) + 1)] 3).alloc (.cells #[.int .i64 ((S : Int) - (m : Int) + 1)] 3)
    have q2 := Blk.new ((wr.alloc (.cells #[.slice none 0 0] 134)).alloc (.cells #[.int .i64 ((n : Int) - (m : Int) + 1)] 3)) #[.int .i64 ((S : Int) - (m : Int) + 1)] 3
    have hz : ((((wr.alloc (.cells #[.slice none 0 0] 134)).alloc (.cells #[.int .i64 ((n : Int) - (m : Int) + 1)] 3)).alloc (.cells #[.int .i64 ((S : Int) - (m : Int) + 1)] 3))).heap.size = wr.heap.size + 1 + 1 + 1 := by simp only [World.size_alloc]
    simp only [World.size_alloc] at q1 q2
    have hTn := hid (hTr.out.chg hcn id)
    have hRn := hid (hRr.out.chg hcn (fun _ _ _ h => h))
    have hblt := hid (show b12 < wr.heap.size from hTr.out.lt)
    have hglt := hid (fun j (hj : j < 3) => (hRr.out j hj).2.lt)
    have hCwr := hid (hCw.out _ hCr.out)
    clear hcn hc2 hO hY hTr hRr x1 x2
    generalize ((wr.alloc (.cells #[.slice none 0 0] 134)).alloc (.cells #[.int .i64 ((n : Int) - (m : Int) + 1)] 3)).alloc (.cells #[.int .i64 ((S : Int) - (m : Int) + 1)] 3) = W0 at *
    obtain ⟨bo, hbo⟩ : ∃ bo, bo = wr.heap.size := ⟨_, rfl⟩
    rw [← hbo] at q1 q2 hz hO2 hblt hglt ⊢
    have c1 := q1.cell 0 (v := .int .i64 ((n : Int) - (m : Int) + 1)) rfl
    have c2 := q2.cell 0 (v := .int .i64 ((S : Int) - (m : Int) + 1)) rfl
    rw [hsums.out] at c1
    rw [heach.out] at c2
    have hq1 := hid c1
    have hq2 := hid c2
    have hz0 := hid hz
    have hbz := hid (show bo < W0.heap.size by omega)
    have hst := hid (blocks_stops 8 (by omega) sums each (bo + 1) (bo + 1 + 1) (KeepsBut W0.heap.size bo) (keepsBut_boxes (by omega) (by omega) (by omega) (by omega)) (by have := hsm.out; omega) (by have := hem.out; omega) (by have := hsm.out; omega) (by have := hem.out; omega) W0 (by omega) (by omega) c1 c2)
    clear q1 q2 hz c1 c2 hbo
    refine (wpIn_wide (n := 9)).1 ?_
    refine' wpIn_rangeFunc_ownG (F := Fence.wide) rfl (by omega) (gf := 195) (lb := #[.pointer (some ⟨bo + 1, 0, none⟩), .pointer (some ⟨bo + 1 + 1, 0, none⟩)]) rfl trivial (enters_of Tryz.func195 (by kernel_rfl) rfl) hst.out (fun h k j hj hn => (k j hj hn).trans (h j hj hn)) (fun W l o o' hl _ _ _ k hk _ => World.putObj_heap_other (by omega)) (Below.refl _ _) (fun _ => rfl)
     (CorI W0 bo sums each (slideN m (fun j => lp.getD j 0) (fun j => lt.getD j 0))) (fun _ _ _ => False) (CorI_own W0 bo _ _ _ hbz.out) (fun _ _ _ _ _ h _ _ => h.elim) ⟨none, 0, 0, hO2.out, World.ownsRow_nil _ _ _ _, Chg.refl _ _⟩ _ ?assign ?body ?done ?stop
    case assign =>
     intro l x W K hK
     unfold blkEnc
     gi_wp2
     exact hK
    case done =>
     rintro D ys W hD rfl ⟨A1, L, c1, hBo, hOut, hch⟩ hDef
     have hDefh := hid hDef
     have hOuth := hid hOut
     have hchh := hid hch
     have v0 := hBo.cell 0 (v := .slice A1 L c1) rfl
     have v1 := (hY2.out.2.1.chg hch (fun e => absurd (show w.heap.size + 1 = bo from e) (by have := hNb.out; have := hblt.out; omega)))
     have v2 := (hY2.out.2.2.chg hch (fun e => absurd (show w.heap.size + 1 + 1 = bo from e) (by have := hNb.out; have := hblt.out; omega)))
     have u1 := v1.cell 0 (v := .int .i64 (S : Nat)) rfl
     have u2 := v2.cell 0 (v := .int .i64 (n : Nat)) rfl
     replace v0 := Calm.cell hBo.lt v0
     replace u1 := Calm.cell v1.lt u1
     replace u2 := Calm.cell v2.lt u2
     have hCn9 := hid (fun w => count_any m n S w)
     clear v1 v2 hBo hOut hch hDef
     go_wp2_with fail
     try simp only [List.append_eq, List.cons_append, List.nil_append]
     refine wp_region_calm_lit (by kernel_rfl) (by kernel_rfl) ?_
     repeat (go_big_quiet_step (((go_at_call 63; exact calm_same (hCn9.out _)))))
     refine wpQuiet_nil ?_
     intro _ hw'
     obtain ⟨nq, hw''⟩ := hw'
     subst hw''
     go_wp2
     have hD9 : nq.val.heap[D]? = some (.deferred (some [])) := (nq.chg.block D (Array.getElem?_eq_some_iff.1 hDefh.out).1 id).trans hDefh.out
     have hLs : L = sums := by
      have h := hOuth.out.1
      rw [blkVals_all _ (by have := hsm.out; omega) (by have := hem.out; omega)] at h
      simpa using h.symm
     have hO9 := own_chg hOuth.out nq.chg (fun _ _ h => h)
     have hC9 := (hCwr.out.trans hCn.out).then (hchh.out.trans (nq.chg.mono (fun _ _ h => h.elim))) (fun j hj e => absurd (show j = bo from e) (by have := hlo.out; have := hblt.out; omega))
     have hpo : Chg (One D) nq.val (nq.val.putObj D (.deferred none)) := Chg.of_grownBy (grownBy_putObj' nq.val D (.deferred none)) (fun k h _ => by cases h; rfl)
     refine ⟨by simp, .inl ⟨_, _, rfl, run_takeDeferred hD9, ?_⟩⟩
     subst hLs
     have hsz9 : w.heap.size ≤ W0.heap.size := Nat.le_trans hCwr.out.size hCn.out.size
     refine ⟨_, results_tmp3 rfl _ _ _, A1, c1, rfl, ?_, hC9.then hpo (fun j hj e => absurd (show j = D from e) (by omega))⟩
     rw [blkVals_all _ (by have := hsm.out; omega) (by have := hem.out; omega)] at hO9
     refine own_lower (own_chg hO9 hpo (fun k hk e => ?_)) hsz9
     obtain ⟨o, ho, hc⟩ := own_cells hO9 k hk
     rw [show k = D from e, hD9] at ho
     obtain rfl := Option.some.inj ho
     cases hc
    case stop =>
     rintro D c pre W _ _ h _
     exact h.elim
    case body =>
     rintro l pre b W ⟨A1, L, c1, hBo, hOut, hch⟩ hlen
     have hBoh := hid hBo
     have hOuth := hid hOut
     have hchh := hid hch
     have hWz := hid hch.size
     have hT17 := hid (Three.new W (blkMany sums each b.val) S)
     have hc17 := hid ((Chg.refl Nothing W).alloc (.cells #[.slice none 0 0, .slice none 0 0, .slice none 0 0] 171))
     clear hBo hOut hch
     obtain ⟨at_, hat⟩ : ∃ at_, at_ = blkAt each b.val := ⟨_, rfl⟩
     obtain ⟨many, hmany⟩ : ∃ many, many = blkMany sums each b.val := ⟨_, rfl⟩
     rw [← hmany] at hT17
     rw [← hat, ← hmany]
     have hlt := blk_lt (sums := sums) (each := each) (by have := hsm.out; omega) (by have := hem.out; omega) b.isLt
     have hat2 : at_ = b.val * each := hat
     have hmn : many = min each (sums - at_) := by rw [hmany, hat2]; rfl
     have hatS : at_ < sums := by omega
     have hmp : 1 ≤ many ∧ many ≤ each ∧ at_ + many ≤ sums := by have := hem.out; omega
     have hbnd := hid (And.intro hatS hmp)
     have hatN : at_ + S ≤ 1000000000 + 4096 := by have := hsm.out; omega
     have hatv := hid (And.intro hat2 hmany)
     obtain ⟨b17, hb17⟩ : ∃ b17, b17 = W.heap.size := ⟨_, rfl⟩
     rw [← hb17] at hT17 hWz
     have hWb := hid hb17
     clear hat hmany hlt hat2 hmn hatS hmp
     gi_wp2
     rw [← hb17]
     clear hb17
     have hsz17 := hid (show b17 < (W.alloc (.cells #[.slice none 0 0, .slice none 0 0, .slice none 0 0] 171)).heap.size from hT17.out.lt)
     generalize W.alloc (.cells #[.slice none 0 0, .slice none 0 0, .slice none 0 0] 171) = Wb at hT17 hc17 hsz17 ⊢
     gi_loopw [66] (fun kv wr2 => Cor2 Wb b17 many S (fun k q => dftV S (fun i => (dftV S (fun q => lt.getD (at_ + q) 0) (rootW k M) i % (prm k : Nat)) * (dftV S (fun q => lp.getD ((S - q) % S) 0) (rootW k M) i % (prm k : Nat)) % (prm k : Nat)) (invW k M) q % (prm k : Nat) * manyW k M % (prm k : Nat)) kv wr2) (fun kv _ => 3 - (intOf kv).toNat)
     case atStart => exact ⟨0, _, by omega, rfl, hT17.out, fun j hj => by omega, Chg.refl _ _⟩
     case round =>
      obtain ⟨k, gs2, hk, rfl, hT2, hR2, hchg2⟩ := hrel
      have hc0 : Chg (One bo) W0 wr := (hchh.out.then hc17.out (fun _ _ h => h.elim)).then hchg2 (fun i hi e => absurd (show i = b17 from e) (by have := hWz.out; omega))
      have hcw : Chg Nothing w wr := ((hCwr.out.trans hCn.out).then hc0 (fun i hi e => absurd (show i = bo from e) (by have := hlo.out; have := hblt.out; omega)))
      rcases Nat.lt_or_ge k 3 with hk3 | hk3
      ·have hkI : (k : Int) < 3 := by omega
       have hk0 : (0 : Int) ≤ (k : Int) := by omega
       have hy0 := (hY2.out.1.chg hc0 (fun e => absurd (show w.heap.size = bo from e) (by have := hlo.out; have := hblt.out; omega))).cell 0 (v := .slice B n cb) rfl
       have hy1 := (hY2.out.2.1.chg hc0 (fun e => absurd (show w.heap.size + 1 = bo from e) (by have := hNb.out; have := hblt.out; omega))).cell 0 (v := .int .i64 (S : Nat)) rfl
       have hy2 := (hY2.out.2.2.chg hc0 (fun e => absurd (show w.heap.size + 1 + 1 = bo from e) (by have := hNb.out; have := hblt.out; omega))).cell 0 (v := .int .i64 (n : Nat)) rfl
       obtain ⟨hat1, hmp1, hmp2, hmp3⟩ := hbnd.out
       have hsm' := hsm.out
       have hem' := hem.out
       obtain ⟨gb, ob, rfl, hFgb, hgb, -⟩ := (hHB.out _ hcw).at_ (show 0 < n by omega)
       obtain ⟨len, hlen2⟩ : ∃ len, len = min n (at_ + S) - at_ := ⟨_, rfl⟩
       have hl1 : 1 ≤ len := by omega
       have hl2 : len ≤ S := by omega
       have hl3 : at_ + len ≤ n := by omega
       have hsub := sub_els (hHB.out _ hcw) at_ len hl3 hl1
       have hltl : lt.length = n := (hHB.out _ hcw).2.2.2.1
       have hcbn := (hHB.out _ hcw).2.1
       obtain ⟨hiI, hhi⟩ : ∃ hiI : Int, hiI = ((at_ + len : Nat) : Int) := ⟨_, rfl⟩
       have hite : (if (at_ : Int) + (S : Int) < (n : Int) then (at_ : Int) + (S : Int) else (n : Int)) = hiI := by rw [hhi]; split <;> omega
       have hslc := run_three_no elemU sizeU gb ob n cb (at_ : Int) hiI at_ (at_ + len) rfl hhi (by omega) (by omega) (by omega)
       rw [show at_ + len - at_ = len from by omega] at hslc
       clear hhi
       have hgl0 := (hY2.out.1.chg hc0 (fun e => absurd (show w.heap.size = bo from e) (by have := hlo.out; have := hblt.out; omega))).lt
       have hgl1 := (hY2.out.2.1.chg hc0 (fun e => absurd (show w.heap.size + 1 = bo from e) (by have := hNb.out; have := hblt.out; omega))).lt
       have hgl2 := (hY2.out.2.2.chg hc0 (fun e => absurd (show w.heap.size + 1 + 1 = bo from e) (by have := hNb.out; have := hblt.out; omega))).lt
       replace hy0 := Calm.cell hgl0 hy0
       replace hy1 := Calm.cell hgl1 hy1
       replace hy2 := Calm.cell hgl2 hy2
       have hWd := hid (fun (V : World) (hc : Chg Nothing wr V) => (wide_any G _ len (cb - at_) _ S V (hsub.chg hc (fun _ _ _ h => h)) (fun j hj => Nat.lt_of_lt_of_le (hG j hj) (Nat.le_trans hcw.size hc.size)) hl1 hl2 (by omega)).mono
        (fun e w'' h => (⟨h.1, h.2.1.congr (f' := fun q => lt.getD (at_ + q) 0) (fun q hq => by rw [sub_getD lt at_ len q S (by rw [hltl]; exact hlen2) hq]), h.2.2⟩ : e = Ending.returned (.slice (some ⟨V.heap.size, 0, none⟩) S S) ∧ FBlk w'' V.heap.size S (fun q => lt.getD (at_ + q) 0) 82 ∧ Chg Nothing V w'')))
       have hfw2 := hid (fun g w' hB' => hFw.out k hk3 g (fun q => lt.getD (at_ + q) 0) (fun q => hlt0.out _) w' hB')
       clear hsub
       replace hlen2 := hid hlen2
       replace hl1 := hid hl1
       replace hl2 := hid hl2
       replace hl3 := hid hl3
       replace hmp1 := hid hmp1
       replace hmp2 := hid hmp2
       replace hmp3 := hid hmp3
       replace hat1 := hid hat1
       have hc0h := hid hc0
       have hcwh := hid hcw
       have hT2h := hid hT2
       have hR2h := hid hR2
       have hchg2h := hid hchg2
       have hat0 : (0 : Int) ≤ (at_ : Int) := by omega
       have hn9I : (n : Int) ≤ 1000000000 := by omega
       have hat9 : (at_ : Int) + (S : Int) ≤ 1000004096 := by omega
       clear hsm' hem' hltl hcbn hgl0 hgl1 hgl2 hc0 hcw hT2 hR2 hchg2 hgb hFgb
       gi_wp2
       refine wpIn_region_phase1 (fun w' => ∃ nn : Calm wr, w' = nn.val) 10 (.int .i64 (k : Nat)) rfl (by kernel_rfl) rfl rfl (by kernel_rfl) (by kernel_rfl) (by kernel_rfl) (by kernel_rfl) (fun _ _ _ h => h) (by kernel_rfl) (by omega) (by kernel_rfl) (by kernel_rfl) ⟨⟨_, (Chg.refl Nothing wr).drew⟩, rfl⟩ ?_
       simp only [List.take_succ_cons, List.take_zero, Act.put, List.setIfInBounds_toArray, List.set_cons_succ, List.set_cons_zero]
       repeat (go_big_quiet_step (fail))
       refine wpQuiet_nil ?_
       rintro w' ⟨nq, rfl⟩
       change wpAnyIn _ _ _ _ _ _ (6 + 1) _ _ _
       refine wpAnyIn_ready (rs := [10]) (by kernel_rfl) (by simp) (AllReadyIn.cons rfl (fun K hK => ?_) AllReadyIn.nil)
       go_simp
       refine ⟨trivial, callsIn_wide.2 ((hWd.out _ nq.chg).mono ?_)⟩
       rintro e w4 ⟨rfl, hB4, hc4⟩
       refine hK _ _ ?_
       clear hK K
       refine wpAnyIn_ready (rs := [11]) (by kernel_rfl) (by simp) (AllReadyIn.cons rfl (fun K hK => ?_) AllReadyIn.nil)
       go_simp
       refine ⟨trivial, callsIn_wide.2 ((hfw2.out _ _ hB4).mono ?_)⟩
       rintro e w5 ⟨gx, rfl, hgx, hB5, hc5⟩
       have hC5 := hid (nq.chg.trans (hc4.trans hc5))
       have hB5h := hid hB5
       have hgxh := hid (show wr.heap.size ≤ gx from Nat.le_trans (nq.chg.trans hc4).size hgx)
       clear hB4 hc4 hB5 hc5 hgx hWd hfw2
       refine hK _ _ ?_
       clear hK K
       refine wpAnyIn_ready (rs := [12]) (by kernel_rfl) (by simp) (AllReadyIn.cons rfl (fun K hK => ?_) AllReadyIn.nil)
       go_simp
       refine hK _ _ ?_
       clear hK K
       refine wpAnyIn_take (i := 13) (v := .slice (some ⟨gx, 0, none⟩) S S) rfl rfl (by kernel_rfl) (by kernel_rfl) (by kernel_rfl) (fun _ _ _ h => h) ⟨.inl ⟨by rfl, fun w' => by go_simp⟩, fun _ => rfl⟩ ?_
       refine wpAnyIn_take (i := 14) (v := .int .i64 0) rfl rfl (by kernel_rfl) (by kernel_rfl) (by kernel_rfl) (fun _ _ _ h => h) ⟨.inl ⟨by rfl, fun w' => by go_simp⟩, fun _ => rfl⟩ ?_
       simp only [Act.put, List.setIfInBounds_toArray]
       refine wpAnyIn_ready (rs := [15]) (by kernel_rfl) (by simp) (AllReadyIn.cons rfl (fun K hK => ?_) AllReadyIn.nil)
       go_simp
       refine hK _ _ ?_
       clear hK K
       refine wpAnyIn_ready (rs := [16]) (by kernel_rfl) (by simp) (AllReadyIn.cons rfl (fun K hK => ?_) AllReadyIn.nil)
       go_simp
       refine hK _ _ ?_
       clear hK K
       refine wpAnyIn_done (by kernel_rfl) ?_ _
       have hM := hid (fun (x y : Int) (hx : 0 ≤ x) (hy : 0 ≤ y) w => resMul_any k hk3 x y w hx hy)
       have hIv := hid (fun (g : Nat) (f : Nat → Int) (hf : ∀ q, 0 ≤ f q) (w' : World) (hB' : FBlk w' g S f 82) =>
        (nttInverse_any k M hk3 hM0 (fun j => j = g) (some ⟨g, 0, none⟩) S S _ w' (hB'.els 0 S S (by omega) (Nat.le_refl _) (by omega)) (fun j hj => hj ▸ hB'.lt) hSh.out (fun z hz => by obtain ⟨i, -, rfl⟩ := List.mem_map.1 hz; exact hf _)).mono
         (fun e w'' ⟨g', he, hg, hB, hc⟩ => (⟨g', he, hg, hB.congr (f' := fun q => dftV S f (invW k M) q % (prm k : Nat) * manyW k M % (prm k : Nat)) (fun q _ => by rw [dft_list]), hc⟩ : ∃ g', e = Ending.returned (.tuple #[.slice (some ⟨g', 0, none⟩) S S, .int .i64 0]) ∧ w'.heap.size ≤ g' ∧ FBlk w'' g' S (fun q => dftV S f (invW k M) q % (prm k : Nat) * manyW k M % (prm k : Nat)) 82 ∧ Chg Nothing w' w'')))
       have hx0 := hid (fun q => (mod_prm k (dftV S (fun q => lt.getD (at_ + q) 0) (rootW k M) q)).1)
       have hyy0 := hid (fun q => (mod_prm k (dftV S (fun q => lp.getD ((S - q) % S) 0) (rootW k M) q)).1)
       have hrow := hid (hRn.out k hk3)
       generalize hxf : (fun q => dftV S (fun q => lt.getD (at_ + q) 0) (rootW k M) q % ((prm k : Nat) : Int)) = xf at hB5h
       generalize hyf : (fun q => dftV S (fun q => lp.getD ((S - q) % S) 0) (rootW k M) q % ((prm k : Nat) : Int)) = yf at hrow
       have hxq : ∀ q, dftV S (fun q => lt.getD (at_ + q) 0) (rootW k M) q % ((prm k : Nat) : Int) = xf q := fun q => by rw [← hxf]
       have hyq : ∀ q, dftV S (fun q => lp.getD ((S - q) % S) 0) (rootW k M) q % ((prm k : Nat) : Int) = yf q := fun q => by rw [← hyf]
       simp only [hxq] at hx0
       simp only [hyq] at hyy0
       have hxy := hid (And.intro hxq hyq)
       clear hxf hyf hxq hyq hy0 hy1 hy2 hslc hite
       gi_wp2
       gi_loopw [86] (fun iv wr3 => Cor3 w5 gx S (prm k : Nat) xf yf iv wr3) (fun iv _ => S - (intOf iv).toNat)
       case atStart => exact ⟨0, Nat.zero_le _, rfl, hB5h.out.congr (fun q _ => by rw [if_neg (by omega)]), Chg.refl _ _⟩
       case round =>
        obtain ⟨i, hi, rfl, hBx, hch3⟩ := hrel
        have hcx : Chg (One bo) W0 wr := (hc0h.out.then hC5.out (fun _ _ h => h.elim)).then hch3 (fun j hj e => absurd (show j = gx from e) (by have := hgxh.out; have := hc0h.out.size; omega))
        rcases Nat.lt_or_ge i S with hiS | hiS
        ·have hiI : (i : Int) < (S : Int) := by omega
         have hi0 : (0 : Int) ≤ (i : Int) := by omega
         have x0 := hBx.cell (q := i) hiS
         simp only [Nat.lt_irrefl, if_false] at x0
         have hT3 := hTn.out.chg hcx (fun e => absurd (show b12 = bo from e) (by have := hblt.out; omega))
         have t0 := hT3.cell hk3
         rw [show threeV 3 gs S S k = .slice (some ⟨gs k, 0, none⟩) S S from by unfold threeV; rw [if_pos hk3]] at t0
         have hBy := (hrow.out.2.congr (f' := yf) (fun q _ => hxy.out.2 q)).chg hcx (fun e => absurd (show gs k = bo from e) (by have := hglt.out k hk3; omega))
         have y0 := hBy.cell (q := i) hiS
         have hxz := hx0.out i
         have hyz := hyy0.out i
         obtain ⟨x, hxd⟩ : ∃ x, x = xf i := ⟨_, rfl⟩
         obtain ⟨y, hyd⟩ : ∃ y, y = yf i := ⟨_, rfl⟩
         rw [← hxd] at x0 hxz
         rw [← hyd] at y0 hyz
         obtain ⟨z, hzd⟩ : ∃ z, z = x * y % ((prm k : Nat) : Int) := ⟨_, rfl⟩
         have hm1 := hid (fun (nn : Calm wr) => hzd ▸ hM.out x y hxz hyz nn.val)
         replace x0 := Calm.cell hBx.lt x0
         replace t0 := Calm.cell hT3.lt t0
         replace y0 := Calm.cell hBy.lt y0
         have hBxh := hid hBx
         have hch3h := hid hch3
         replace hxd := hid hxd
         replace hyd := hid hyd
         replace hzd := hid hzd
         clear hBx hch3 hT3 hBy hcx
         gi_wp2
         refine wpIn_region_phase0 (fun w' => ∃ nn : Calm wr, w' = nn.val) 15 (by kernel_rfl) (by kernel_rfl) (by kernel_rfl) (by kernel_rfl) (by kernel_rfl) ⟨⟨_, (Chg.refl Nothing wr).drew⟩, rfl⟩ ?_
         simp only [List.take_succ_cons, List.take_zero]
         repeat (go_big_quiet_step ((go_at_call 183; exact calm_of (hm1.out _))))
         refine wpQuiet_nil ?_
         rintro w' ⟨nq, rfl⟩
         have hBq := hBxh.out.chg nq.chg id
         have f0 := hBq.free i
         have z0 := hBq.cell (q := i) hiS
         have hgq := hBq.lt
         have hBz := hid ((hBq.set i z).congr (f' := fun q => if q < i + 1 then xf q * yf q % ((prm k : Nat) : Int) else xf q) (fun q _ => by
          by_cases h1 : q = i
          ·subst h1; rw [if_pos rfl, if_pos (by omega), hzd.out, hxd.out, hyd.out]
          ·rw [if_neg h1]
           by_cases h2 : q < i
           ·rw [if_pos h2, if_pos (by omega)]
           ·rw [if_neg h2, if_neg (by omega)]))
         have hCz := hid (hch3h.out.trans ((nq.chg.mono (fun _ _ h => h.elim)).trans ((Chg.refl (One gx) nq.val).setOne i (.int .u64 z))))
         generalize nq.val = wn at f0 z0 hgq hBz hCz ⊢
         clear hBq
         change wpAnyIn _ _ _ _ _ _ (0 + 1) _ _ _
         refine wpAnyIn_ready (rs := [15]) (by kernel_rfl) (by simp) (AllReadyIn.cons rfl (fun K hK => ?_) AllReadyIn.nil)
         go_simp
         refine hK _ _ ?_
         clear hK K
         refine wpAnyIn_done (by kernel_rfl) ?_ _
         gi_wp2
         go_roundw
         case rel => exact ⟨i + 1, hiS, by go_num, hBz.out, hCz.out⟩
         case measure => simp [intOf]; omega
        ·obtain rfl : i = S := by omega
         have hd : decide ((i : Int) < (i : Int)) = false := decide_eq_false (by omega)
         have hfin := hid (hBx.congr (f' := fun q => xf q * yf q % ((prm k : Nat) : Int)) (fun q hq => by rw [if_pos hq]))
         have hiv := hid (hIv.out gx _ (fun q => (mod_prm k _).1) wr hfin.out)
         have hgx9 := hgxh.out
         have hch5 := hid ((hC5.out.mono (fun _ _ h => h.elim)).trans hch3)
         have hmn1 := hmp1.out
         have hmn2 := hmp2.out
         have hmi : many ≤ i := by have := hem.out; omega
         have hmi0 : (0 : Int) ≤ (many : Int) := by omega
         have hsh := fun g' => run_head elemU sizeU g' i i (many : Int) many rfl hmi
         clear hBx hch3 hfin hIv hcx
         gi_wp2
         refine ⟨trivial, (CallsIn.inRound l (callsIn_wide.2 hiv.out)).mono ?_⟩
         rintro e w6 ⟨g6, rfl, hg6, hB6, hc6⟩
         have hchA := hch5.out.trans (hc6.mono (fun _ _ h => h.elim))
         have hb17 := hT2h.out.lt
         have hT6 := hT2h.out.chg hchA (fun e => absurd (show b17 = gx from e) (by omega))
         have z0 := hT6.cell hk3
         have f0 := hT6.free k
         have hl6 := hT6.lt
         have hTn6 := hid (fun u => hT6.set2 hk3 g6 u)
         have hg6b := hid (show b17 + 1 ≤ g6 from by have := hch5.out.size; omega)
         have hst2 := hid (fun u u' => ((Chg.refl (One b17) w6).setOne k u).setOne k u')
         have hR6 := hid (fun u u' => ((hR2h.out.chg hchA (fun j _ hj e => absurd (show j = gx from e) (by omega))).set hg6b.out (hB6.congr (f' := fun q => dftV i (fun j => (dftV i (fun q => lt.getD (at_ + q) 0) (rootW k M) j % (prm k : Nat)) * (dftV i (fun q => lp.getD ((i - q) % i) 0) (rootW k M) j % (prm k : Nat)) % (prm k : Nat)) (invW k M) q % (prm k : Nat) * manyW k M % (prm k : Nat)) (fun q _ => by
          simp only [hxy.out.1, hxy.out.2]))).chg (hst2.out u u') (fun j hj _ e => absurd (show j = b17 from e) (by omega)))
         have hC6 := hid (fun u u' => (hchg2h.out.then hchA (fun j hj e => absurd (show j = gx from e) (by have := hchg2h.out.size; omega))).trans (hst2.out u u'))
         clear hT6 hchA hB6 hc6 hg6 hiv hch5
         gi_wp2
         go_roundw
         case rel => exact ⟨k + 1, _, hk3, by go_num, hTn6.out _, hR6.out _ _, hC6.out _ _⟩
         case measure => simp [intOf]; omega
      ·obtain rfl : k = 3 := by omega
       have hd : decide (((3 : Nat) : Int) < 3) = false := by decide
       obtain ⟨hat1, hmp1, hmp2, hmp3⟩ := hbnd.out
       have hem' := hem.out
       have hsm' := hsm.out
       have t0 := hT2.cell (j := 0) (by omega)
       have t1 := hT2.cell (j := 1) (by omega)
       have t2 := hT2.cell (j := 2) (by omega)
       rw [show threeV 3 gs2 many S 0 = .slice (some ⟨gs2 0, 0, none⟩) many S from rfl] at t0
       rw [show threeV 3 gs2 many S 1 = .slice (some ⟨gs2 1, 0, none⟩) many S from rfl] at t1
       rw [show threeV 3 gs2 many S 2 = .slice (some ⟨gs2 2, 0, none⟩) many S from rfl] at t2
       have hpl : ∀ j, j < 3 → ∀ q, q < many → dftV S (fun i => (dftV S (fun q => lt.getD (at_ + q) 0) (rootW j M) i % (prm j : Nat)) * (dftV S (fun q => lp.getD ((S - q) % S) 0) (rootW j M) i % (prm j : Nat)) % (prm j : Nat)) (invW j M) q % (prm j : Nat) * manyW j M % (prm j : Nat) = slideN m (fun j => lp.getD j 0) (fun j => lt.getD j 0) (at_ + q) % (prm j : Nat) := fun j hj q hq => by
        have := row_plain j M m q hj hM0 h1 (fun j => lp.getD j 0) (fun q => lt.getD (at_ + q) 0) (fun j hj => by have := hlpl.out; simp; rw [List.getElem?_eq_none (by omega)]; rfl) (by rw [← hSh.out]; omega)
        rw [← hSh.out] at this
        rw [this]
        unfold slideN
        congr 1
        exact sumN_congr fun u _ => by rw [Nat.add_assoc]
       have hrw := hid (rows_any (fun j => j = gs2 0) (fun j => j = gs2 1) (fun j => j = gs2 2) (some ⟨gs2 0, 0, none⟩) (some ⟨gs2 1, 0, none⟩) (some ⟨gs2 2, 0, none⟩) many S S S _ _ _ (fun q => slideN m (fun j => lp.getD j 0) (fun j => lt.getD j 0) (at_ + q)) wr
        ((hR2 0 (by omega)).2.els 0 many S (by omega) (by omega) (by omega)) ((hR2 1 (by omega)).2.els 0 many S (by omega) (by omega) (by omega)) ((hR2 2 (by omega)).2.els 0 many S (by omega) (by omega) (by omega))
        (fun i _ => hNb9.out _) (fun i hi => by simp only [List.getD, List.getElem?_map, List.getElem?_range hi, Option.map_some, Option.getD_some, Nat.zero_add]; exact hpl 0 (by omega) i hi) (fun i hi => by simp only [List.getD, List.getElem?_map, List.getElem?_range hi, Option.map_some, Option.getD_some, Nat.zero_add]; exact hpl 1 (by omega) i hi) (fun i hi => by simp only [List.getD, List.getElem?_map, List.getElem?_range hi, Option.map_some, Option.getD_some, Nat.zero_add]; exact hpl 2 (by omega) i hi) (by omega))
       have hWw := hid ((hc17.out).then hchg2 (fun j hj e => absurd (show j = b17 from e) (by have := hWb.out; omega)))
       have hmp1' := hid hmp1
       have hmp2' := hid hmp2
       clear hpl hT2 hR2 hchg2 hc0 hcw hmp1 hmp2 hmp3 hat1 hem' hsm'
       gi_wp2
       refine ⟨trivial, (CallsIn.inRound l (callsIn_wide.2 hrw.out)).mono ?_⟩
       rintro e w7 ⟨A7, c7, rfl, hO7, hc7⟩
       have hW7 := hid (hWw.out.trans hc7)
       have hbo7 := hBoh.out.chg hW7.out id
       have z0 := hbo7.cell 0 (v := .slice A1 L c1) rfl
       have hO1 := hid (own_chg hOuth.out hW7.out (fun _ _ h => h))
       have hO7h := hid hO7
       have hbo7h := hid hbo7
       have hE7 := ElsAt.of_own (enc := Value.int .u64) (d := 0) (xs := (List.range many).map fun q => slideN m (fun j => lp.getD j 0) (fun j => lt.getD j 0) (at_ + q)) (by rw [List.map_map]; exact hO7)
       have q1 := hid hE7.1
       have q2 := hid hE7.2.1
       have q3 := hid hE7.cells'
       have hlen1 := hid (show L ≤ pre.length * each from by have h := blkVals_len sums each (slideN m (fun j => lp.getD j 0) (fun j => lt.getD j 0)) pre; rw [hOuth.out.1] at h; omega)
       have hpre := hid (show pre.length * each ≤ 1000000001 * 4096 from Nat.mul_le_mul (by have h2 := blkNB_le sums each; have := hsm.out; omega) (by have := hem.out; omega))
       have hsz7 := hid (show W0.heap.size ≤ w7.heap.size from Nat.le_trans hchh.out.size hW7.out.size)
       have hAof := hid (own_of hO1.out)
       clear hO7 hc7 hbo7 hrw hE7
       gi_wp2_with (gi_at_builtin; refine append_genIn rfl _ _ 134 rfl W0.heap.size 82 (.int .u64 0) 1 8 Tryz.underlying134 infoU rfl (by decide) A1 c1 L _ rfl hO1.out A7 many c7 (((List.range many).map fun q => slideN m (fun j => lp.getD j 0) (fun j => lt.getD j 0) (at_ + q)).map (Value.int .u64)) rfl ?_ q1.out q2.out q3.out ?_ ?_ ?_ hsz7.out ?_)
       ·simp
       ·intro u hu
        obtain ⟨z, -, rfl⟩ := List.mem_map.1 hu
        rfl
       ·have := hlen1.out; have := hpre.out; have := hmp2'.out; have := hem.out; unfold maxLen; omega
       ·have := hlen1.out; have := hpre.out; have := hmp2'.out; have := hem.out; omega
       intro A8 c8 w8 hown8 hc8 hA8
       have hne8 := hid (fun (e : Of A1 bo) => (show False from by have := (hAof.out bo e).1; have := hbz.out; omega))
       have hbo8 := hbo7h.out.chg hc8 hne8.out
       have z8 := hbo8.cell 0 (v := .slice A1 L c1) rfl
       have f8 := hbo8.free 0
       have hl8 := hbo8.lt
       have hB9 := hid (Blk.set hbo8 0 (.slice A8 (L + many) c8))
       have hst9 := (Chg.refl (One bo) w8).setOne 0 (.slice A8 (L + many) c8)
       have hO9 := hid (own_chg hown8 hst9 (fun j hj e => by
        have : j = bo := e
        subst this
        rcases hA8 _ hj with h | h
        ·exact hne8.out h
        ·have := hbo7h.out.lt; omega))
       have hAll := hid ((hW7.out.mono (T := fun j => Of A1 j ∨ j = bo) (fun _ _ h => h.elim)).trans ((hc8.mono (fun _ _ h => .inl h)).trans (hst9.mono (fun _ _ h => .inr h))))
       clear hown8 hc8 hA8 hbo8 hst9 z0
       gi_wp2
       have hbd := body_done hchh.out.size hbz.out hOuth.out hAll.out
       refine ⟨hbd.1, hbd.2, A8, L + many, c8, ?_, ?_, ?_⟩
       ·simpa using hB9.out
       ·have := hO9.out
        rw [blkVals_snoc]
        rw [← hatv.out.1, ← hatv.out.2]
        simpa [Function.comp_def] using this
       ·exact hchh.out.then hAll.out (fun j hj e => by
         rcases e with e | e
         ·have := (hAof.out j e).1; omega
         ·exact e)
end Go.Proofs.YtoelilejohfglaaGreat
namespace Go.Proofs.YtoelilejohfglaaGreat
open Go.RowKit
set_option linter.unusedVariables false
set_option linter.unusedSimpArgs false
theorem correlate_none (A B : Option Addr) (m ca n cb : Nat) (size : Int) (w : World) (hsl : slidesB m n = false) :
  Calls Tryz.prog 150 #[.slice A m ca, .slice B n cb, .int .i64 size] w fun e w' => e = .returned (.tuple #[.slice none 0 0, .int .i64 0, .int .i64 0]) ∧ Chg Nothing w w' := by
 have hCk := hid (fun w => blkCheck_none (fun _ => True) (fun _ => True) A B m ca n cb size w hsl)
 have hSl := hid (fun w => slides_any m n w)
 rw [hsl] at hSl
 go_enter Tryz.func150, Tryz.ntmps150
 go_wp2_with fail
 go_region
 all_goals
  have c0 := (((Chg.refl Nothing w).alloc (.cells #[.slice B n cb] 134)).alloc (.cells #[.int .i64 size] 3))
  have b0 := ((Blk.new w #[.slice B n cb] 134).alloc (.cells #[.int .i64 size] 3)).alloc (.cells #[.int .i64 (n : Nat)] 3) |>.chg (Chg.refl Nothing _).drew id
  have b1 := (Blk.new (w.alloc (.cells #[.slice B n cb] 134)) #[.int .i64 size] 3).alloc (.cells #[.int .i64 (n : Nat)] 3) |>.chg (Chg.refl Nothing _).drew id
  have b2 := (Blk.new ((w.alloc (.cells #[.slice B n cb] 134)).alloc (.cells #[.int .i64 size] 3)) #[.int .i64 (n : Nat)] 3).chg (Chg.refl Nothing _).drew id
  have hc0 := (c0.alloc (.cells #[.int .i64 (n : Nat)] 3)).drew
  rw [World.size_alloc] at b1
  rw [World.size_alloc, World.size_alloc] at b2
  clear c0
  generalize (((w.alloc (.cells #[.slice B n cb] 134)).alloc (.cells #[.int .i64 size] 3)).alloc (.cells #[.int .i64 (n : Nat)] 3)).drew = W at b0 b1 b2 hc0 ⊢
  have x0 := b0.cell 0 (v := .slice B n cb) rfl
  have x1 := b1.cell 0 (v := .int .i64 size) rfl
  have x2 := b2.cell 0 (v := .int .i64 (n : Nat)) rfl
  have hC0 := hid hc0
  clear b0 b1 b2 hc0
  go_wp2_with fail
  refine (hCk.out _).mono ?_
  rintro e w1 ⟨rfl, rfl⟩
  go_wp2_with fail
  refine (hSl.out _).mono ?_
  rintro e w2 ⟨rfl, rfl⟩
  go_wp2
  go_ret3
  exact ⟨rfl, hC0.out⟩
end Go.Proofs.YtoelilejohfglaaGreat
