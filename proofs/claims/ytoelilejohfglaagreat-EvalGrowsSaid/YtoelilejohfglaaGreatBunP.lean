/- Joined texts: NumA NumB NumC ResA ResB NttA NttB NttC NttD CorA. -/
import Derived.Test.YtoelilejohfglaaGreatBunA
import Derived.Test.YtoelilejohfglaaGreatRows
import Derived.Deep.OwnRows
import Derived.Deep.RegionLaw
set_option maxHeartbeats 16000000
set_option maxRecDepth 100000
namespace Go.Proofs.YtoelilejohfglaaGreat
open Go.RowKit
set_option linter.unusedVariables false
set_option linter.unusedSimpArgs false
def Cg (p a b : Int) : Prop := ∃ c, a = b + p * c
theorem Cg.refl (p a : Int) : Cg p a a := ⟨0, by grind⟩
theorem Cg.of_eq {p a b : Int} (h : a = b) : Cg p a b := h ▸ Cg.refl p a
theorem Cg.symm {p a b : Int} (h : Cg p a b) : Cg p b a := by obtain ⟨c, h⟩ := h; exact ⟨-c, by grind⟩
theorem Cg.trans {p a b c : Int} (h : Cg p a b) (k : Cg p b c) : Cg p a c := by obtain ⟨x, h⟩ := h; obtain ⟨y, k⟩ := k; exact ⟨x + y, by grind⟩
theorem Cg.add {p a b c d : Int} (h : Cg p a b) (k : Cg p c d) : Cg p (a + c) (b + d) := by obtain ⟨x, h⟩ := h; obtain ⟨y, k⟩ := k; exact ⟨x + y, by grind⟩
theorem Cg.sub {p a b c d : Int} (h : Cg p a b) (k : Cg p c d) : Cg p (a - c) (b - d) := by obtain ⟨x, h⟩ := h; obtain ⟨y, k⟩ := k; exact ⟨x - y, by grind⟩
theorem Cg.neg {p a b : Int} (h : Cg p a b) : Cg p (-a) (-b) := by obtain ⟨x, h⟩ := h; exact ⟨-x, by grind⟩
theorem Cg.mul {p a b c d : Int} (h : Cg p a b) (k : Cg p c d) : Cg p (a * c) (b * d) := by obtain ⟨x, h⟩ := h; obtain ⟨y, k⟩ := k; exact ⟨x * d + b * y + p * x * y, by grind⟩
theorem Cg.pow {p a b : Int} (h : Cg p a b) : ∀ n : Nat, Cg p (a ^ n) (b ^ n)
 | 0 => by simp; exact Cg.refl _ _
 | n + 1 => by rw [Int.pow_succ, Int.pow_succ]; exact (Cg.pow h n).mul h
theorem Cg.emod (p a : Int) : Cg p (a % p) a := ⟨-(a / p), by have := Int.emod_add_mul_ediv a p; grind⟩
theorem Cg.emod_eq {p a b : Int} (h : Cg p a b) : a % p = b % p := by obtain ⟨c, rfl⟩ := h; exact Int.add_mul_emod_self_left b p c
theorem Cg.of_emod {p a b : Int} (h : a % p = b % p) : Cg p a b := (Cg.emod p a).symm.trans ((Cg.of_eq h).trans (Cg.emod p b))
theorem Cg.eq {p a b : Int} (h : Cg p a b) (ha : 0 ≤ a ∧ a < p) (hb : 0 ≤ b ∧ b < p) : a = b := by
 have := h.emod_eq
 rwa [Int.emod_eq_of_lt ha.1 ha.2, Int.emod_eq_of_lt hb.1 hb.2] at this
theorem Cg.zero (p : Int) : Cg p p 0 := ⟨1, by grind⟩
def sumN : Nat → (Nat → Int) → Int
 | 0, _ => 0
 | n + 1, f => sumN n f + f n
theorem sumN_succ (n : Nat) (f : Nat → Int) : sumN (n + 1) f = sumN n f + f n := rfl
theorem sumN_congr {n : Nat} {f g : Nat → Int} (h : ∀ i, i < n → f i = g i) : sumN n f = sumN n g := by
 induction n with
 | zero => rfl
 | succ n ih => simp only [sumN_succ]; rw [ih (fun i hi => h i (by omega)), h n (by omega)]
theorem sumN_cg {p : Int} {n : Nat} {f g : Nat → Int} (h : ∀ i, i < n → Cg p (f i) (g i)) : Cg p (sumN n f) (sumN n g) := by
 induction n with
 | zero => exact Cg.refl _ _
 | succ n ih => simp only [sumN_succ]; exact (ih (fun i hi => h i (by omega))).add (h n (by omega))
theorem sumN_add (n : Nat) (f g : Nat → Int) : sumN n (fun i => f i + g i) = sumN n f + sumN n g := by
 induction n with
 | zero => rfl
 | succ n ih => simp only [sumN_succ]; rw [ih]; grind
theorem sumN_mul (n : Nat) (c : Int) (f : Nat → Int) : sumN n (fun i => c * f i) = c * sumN n f := by
 induction n with
 | zero => simp [sumN]
 | succ n ih => simp only [sumN_succ]; rw [ih]; grind
theorem sumN_zero (n : Nat) (f : Nat → Int) (h : ∀ i, i < n → f i = 0) : sumN n f = 0 := by
 induction n with
 | zero => rfl
 | succ n ih => simp only [sumN_succ]; rw [ih (fun i hi => h i (by omega)), h n (by omega)]; rfl
theorem sumN_split (n m : Nat) (f : Nat → Int) : sumN (n + m) f = sumN n f + sumN m (fun i => f (n + i)) := by
 induction m with
 | zero => simp [sumN]
 | succ m ih => rw [← Nat.add_assoc]; simp only [sumN_succ]; rw [ih]; grind
theorem sumN_two (n : Nat) (f : Nat → Int) : sumN (2 * n) f = sumN n (fun i => f (2 * i)) + sumN n (fun i => f (2 * i + 1)) := by
 induction n with
 | zero => rfl
 | succ n ih =>
  rw [show 2 * (n + 1) = 2 * n + 1 + 1 from by omega]
  simp only [sumN_succ]
  rw [ih]; grind
theorem sumN_swap (n m : Nat) (f : Nat → Nat → Int) : sumN n (fun i => sumN m (fun j => f i j)) = sumN m (fun j => sumN n (fun i => f i j)) := by
 induction n with
 | zero => exact (sumN_zero m _ (fun _ _ => rfl)).symm
 | succ n ih => rw [show sumN (n + 1) (fun i => sumN m (fun j => f i j)) = sumN n (fun i => sumN m (fun j => f i j)) + sumN m (fun j => f n j) from rfl, ih, ← sumN_add]; rfl
theorem sumN_one {n : Nat} (k : Nat) (hk : k < n) (f : Nat → Int) (h : ∀ i, i < n → i ≠ k → f i = 0) : sumN n f = f k := by
 induction n with
 | zero => omega
 | succ n ih =>
  simp only [sumN_succ]
  by_cases hkn : k = n
  ·subst hkn
   rw [sumN_zero k f (fun i hi => h i (by omega) (by omega))]; grind
  ·rw [ih (by omega) (fun i hi hne => h i (by omega) hne), h n (by omega) (fun e => hkn e.symm)]; grind
theorem sumN_nonneg (n : Nat) (f : Nat → Int) (h : ∀ i, i < n → 0 ≤ f i) : 0 ≤ sumN n f := by
 induction n with
 | zero => exact Int.le_refl _
 | succ n ih => simp only [sumN_succ]; have := ih (fun i hi => h i (by omega)); have := h n (by omega); omega
theorem sumN_le (n : Nat) (f : Nat → Int) (b : Int) (h : ∀ i, i < n → f i ≤ b) : sumN n f ≤ n * b := by
 induction n with
 | zero => simp [sumN]
 | succ n ih =>
  simp only [sumN_succ]
  have h1 := ih (fun i hi => h i (by omega))
  have h2 := h n (by omega)
  have : ((n + 1 : Nat) : Int) * b = n * b + b := by push_cast; grind
  omega
theorem pow_two_mul (x : Int) (n : Nat) : x ^ (2 * n) = (x * x) ^ n := by rw [Int.pow_mul]; congr 1; rw [Int.pow_succ, Int.pow_succ]; simp
theorem geo_succ (m : Nat) (x : Int) : sumN (2 ^ (m + 1)) (fun i => x ^ i) = sumN (2 ^ m) (fun i => x ^ i) * (1 + x ^ (2 ^ m)) := by
 rw [Nat.pow_succ, Nat.mul_comm, Nat.two_mul, sumN_split]
 rw [show sumN (2 ^ m) (fun i => x ^ (2 ^ m + i)) = x ^ (2 ^ m) * sumN (2 ^ m) (fun i => x ^ i) from by
  rw [← sumN_mul]; exact sumN_congr (fun i _ => Int.pow_add x _ _)]
 grind
theorem geo_zero {p : Int} (m t : Nat) (x : Int) (ht : t < m) (h : Cg p (x ^ (2 ^ t)) (-1)) : Cg p (sumN (2 ^ m) (fun i => x ^ i)) 0 := by
 induction m with
 | zero => omega
 | succ m ih =>
  rw [geo_succ]
  by_cases htm : t = m
  ·subst htm
   have := (Cg.refl p (sumN (2 ^ t) (fun i => x ^ i))).mul ((Cg.refl p 1).add h)
   rw [show sumN (2 ^ t) (fun i => x ^ i) * (1 + -1) = 0 from by grind] at this
   exact this
  ·have := (ih (by omega)).mul (Cg.refl p (1 + x ^ (2 ^ m)))
   rw [Int.zero_mul] at this
   exact this
theorem odd_part (m : Nat) : ∀ d : Nat, 0 < d → d < 2 ^ m → ∃ e q, e < m ∧ d = 2 ^ e * (2 * q + 1) := by
 induction m with
 | zero => intro d h0 h1; simp at h1; omega
 | succ m ih =>
  intro d h0 h1
  have hcs : d = 2 * (d / 2) ∨ d = 2 * (d / 2) + 1 := by omega
  generalize d / 2 = c at hcs
  rcases hcs with rfl | rfl
  ·obtain ⟨e, q, he, h⟩ := ih c (by omega) (by rw [Nat.pow_succ] at h1; omega)
   exact ⟨e + 1, q, by omega, by rw [h, Nat.pow_succ]; grind⟩
  ·exact ⟨0, c, by omega, by simp⟩
def rv : Nat → Nat → Nat
 | 0, _ => 0
 | t + 1, i => 2 * rv t i + (i / 2 ^ t) % 2
theorem rv_lt (t i : Nat) : rv t i < 2 ^ t := by
 induction t with
 | zero => simp [rv]
 | succ t ih => unfold rv; rw [Nat.pow_succ]; omega
theorem rv_two (t b c : Nat) (hc : c < 2) : rv (t + 1) (2 * b + c) = c * 2 ^ t + rv t b := by
 induction t with
 | zero => simp [rv]; omega
 | succ t ih =>
  rw [show rv (t + 1 + 1) (2 * b + c) = 2 * rv (t + 1) (2 * b + c) + ((2 * b + c) / 2 ^ (t + 1)) % 2 from rfl, ih, show rv (t + 1) b = 2 * rv t b + (b / 2 ^ t) % 2 from rfl]
  rw [show (2 * b + c) / 2 ^ (t + 1) = b / 2 ^ t from by rw [Nat.pow_succ, Nat.mul_comm (2 ^ t) 2, ← Nat.div_div_eq_div_mul, show (2 * b + c) / 2 = b from by omega]]
  rw [Nat.pow_succ]
  have : c * (2 ^ t * 2) = 2 * (c * 2 ^ t) := by grind
  omega
theorem rv_low (t : Nat) : ∀ u c : Nat, rv t (c * 2 ^ t + u) = rv t u := by
 induction t with
 | zero => intro u c; rfl
 | succ t ih =>
  intro u c
  unfold rv
  have e : c * 2 ^ (t + 1) + u = (2 * c) * 2 ^ t + u := by rw [Nat.pow_succ]; grind
  rw [e, ih u (2 * c)]
  congr 1
  rw [Nat.mul_comm (2 * c), Nat.add_comm, Nat.add_mul_div_left _ _ (Nat.two_pow_pos t)]
  omega
theorem rv_rv (t : Nat) : ∀ i, i < 2 ^ t → rv t (rv t i) = i := by
 induction t with
 | zero => intro i h; simp at h; subst h; rfl
 | succ t ih =>
  intro i h
  have hi : i = 2 * (i / 2) + i % 2 := by omega
  have hb : i / 2 < 2 ^ t := by rw [Nat.pow_succ] at h; omega
  have hl := rv_lt t (i / 2)
  have hc : i % 2 < 2 := by omega
  have e1 : rv (t + 1) i = (i % 2) * 2 ^ t + rv t (i / 2) := by
   have := rv_two t (i / 2) (i % 2) hc
   rwa [← hi] at this
  rw [e1]
  show 2 * rv t ((i % 2) * 2 ^ t + rv t (i / 2)) + (((i % 2) * 2 ^ t + rv t (i / 2)) / 2 ^ t) % 2 = i
  rw [rv_low, ih _ hb, Nat.mul_comm (i % 2), Nat.add_comm (2 ^ t * (i % 2)), Nat.add_mul_div_left _ _ (Nat.two_pow_pos t), Nat.div_eq_of_lt hl]
  omega
def RootOf (p : Int) (m : Nat) (x : Int) : Prop := Cg p (x ^ (2 ^ m)) 1 ∧ (m = 0 ∨ Cg p (x ^ (2 ^ (m - 1))) (-1))
theorem one_pow' (n : Nat) : (1 : Int) ^ n = 1 := by induction n with
 | zero => rfl
 | succ n ih => rw [Int.pow_succ, ih]; rfl
theorem pow_period {p x : Int} {n : Nat} (h : Cg p (x ^ n) 1) (d : Nat) : Cg p (x ^ d) (x ^ (d % n)) := by
 have e : x ^ d = (x ^ n) ^ (d / n) * x ^ (d % n) := by
  rw [← Int.pow_mul, ← Int.pow_add]; congr 1; exact (Nat.div_add_mod d n).symm
 rw [e]
 have := (h.pow (d / n)).mul (Cg.refl p (x ^ (d % n)))
 rwa [one_pow', Int.one_mul] at this
theorem sumN_ones (n : Nat) : sumN n (fun _ => 1) = n := by
 induction n with
 | zero => rfl
 | succ n ih => simp only [sumN_succ]; rw [ih]; push_cast; rfl
theorem orth {p x : Int} {m : Nat} (h : RootOf p m x) (d : Nat) : Cg p (sumN (2 ^ m) (fun j => x ^ (j * d))) (if d % 2 ^ m = 0 then ((2 ^ m : Nat) : Int) else 0) := by
 have e : sumN (2 ^ m) (fun j => x ^ (j * d)) = sumN (2 ^ m) (fun j => (x ^ d) ^ j) := sumN_congr (fun j _ => by rw [Nat.mul_comm, Int.pow_mul])
 rw [e]
 have hper := pow_period h.1 d
 by_cases hd : d % 2 ^ m = 0
 ·rw [if_pos hd]
  rw [hd] at hper
  have h1 : Cg p (x ^ d) 1 := hper.trans (Cg.of_eq (by simp))
  have := sumN_cg (p := p) (n := 2 ^ m) (f := fun j => (x ^ d) ^ j) (g := fun _ => 1) (fun j _ => (h1.pow j).trans (Cg.of_eq (one_pow' j)))
  rwa [sumN_ones] at this
 ·rw [if_neg hd]
  have hlt := Nat.mod_lt d (Nat.two_pow_pos m)
  obtain ⟨e, q, he, hdq⟩ := odd_part m (d % 2 ^ m) (by omega) hlt
  refine geo_zero m (m - 1 - e) (x ^ d) (by omega) ?_
  have h2 := hper.pow (2 ^ (m - 1 - e))
  refine h2.trans ?_
  rw [hdq, ← Int.pow_mul]
  have hexp : 2 ^ e * (2 * q + 1) * 2 ^ (m - 1 - e) = 2 ^ (m - 1) * (2 * q + 1) := by
   have : 2 ^ e * 2 ^ (m - 1 - e) = 2 ^ (m - 1) := by rw [← Nat.pow_add]; congr 1; omega
   grind
  rw [hexp, Int.pow_mul]
  rcases h.2 with h0 | hm
  ·omega
  ·refine (hm.pow (2 * q + 1)).trans (Cg.of_eq ?_)
   rw [Int.pow_succ, Int.pow_mul]
   rw [show ((-1 : Int)) ^ 2 = 1 from rfl, one_pow']; rfl
def dftV (n : Nat) (f : Nat → Int) (x : Int) (j : Nat) : Int := sumN n (fun i => f i * x ^ (i * j))
theorem dftV_two (n : Nat) (f : Nat → Int) (x : Int) (j : Nat) : dftV (2 * n) f x j = dftV n (fun i => f (2 * i)) (x * x) j + x ^ j * dftV n (fun i => f (2 * i + 1)) (x * x) j := by
 unfold dftV
 rw [sumN_two, ← sumN_mul]
 congr 1
 ·exact sumN_congr (fun i _ => by rw [Nat.mul_assoc, pow_two_mul])
 ·refine sumN_congr (fun i _ => ?_)
  rw [show (2 * i + 1) * j = 2 * (i * j) + j from by grind, Int.pow_add, pow_two_mul]
  grind
theorem dftV_high {p : Int} (n : Nat) (f : Nat → Int) (x : Int) (j : Nat) (h : Cg p (x ^ n) (-1)) : Cg p (dftV (2 * n) f x (j + n)) (dftV n (fun i => f (2 * i)) (x * x) j - x ^ j * dftV n (fun i => f (2 * i + 1)) (x * x) j) := by
 rw [dftV_two]
 have hsq : Cg p ((x * x) ^ n) 1 := by
  rw [← pow_two_mul, Nat.mul_comm, Int.pow_mul]
  exact (h.pow 2).trans (Cg.of_eq (by rfl))
 have hper : ∀ g : Nat → Int, Cg p (dftV n g (x * x) (j + n)) (dftV n g (x * x) j) := fun g => by
  unfold dftV
  refine sumN_cg (fun i _ => (Cg.refl p (g i)).mul ?_)
  rw [Nat.mul_add, Int.pow_add]
  have := (Cg.refl p ((x * x) ^ (i * j))).mul ((hsq.pow i))
  rw [one_pow', Int.mul_one, ← Int.pow_mul, Nat.mul_comm n i] at this
  exact this
 have hx : Cg p (x ^ (j + n)) (-(x ^ j)) := by
  rw [Int.pow_add]
  have := (Cg.refl p (x ^ j)).mul h
  rwa [show x ^ j * -1 = -(x ^ j) from by grind] at this
 have := (hper (fun i => f (2 * i))).add (hx.mul (hper (fun i => f (2 * i + 1))))
 refine this.trans (Cg.of_eq ?_)
 grind
def cyc (n : Nat) (a b : Nat → Int) (k : Nat) : Int := sumN n (fun i => sumN n (fun l => if (i + l) % n = k then a i * b l else 0))
theorem conv_cyc {p x y N : Int} {m : Nat} (hx : RootOf p m x) (hy : Cg p (x * y) 1) (hN : Cg p (N * ((2 ^ m : Nat) : Int)) 1) (a b C : Nat → Int) (hC : ∀ j, j < 2 ^ m → Cg p (C j) (dftV (2 ^ m) a x j * dftV (2 ^ m) b x j)) (k : Nat) (hk : k < 2 ^ m) :
  Cg p (dftV (2 ^ m) C y k * N) (cyc (2 ^ m) a b k) := by
 have hn := Nat.two_pow_pos m
 generalize hnn : 2 ^ m = n at *
 have hyx : Cg p y (x ^ (n - 1)) := by
  have h1 : Cg p (x ^ n) 1 := by rw [← hnn]; exact hx.1
  have e : x ^ n = x * x ^ (n - 1) := by rw [show n = (n - 1) + 1 from by omega, Int.pow_succ]; simp; grind
  rw [e] at h1
  have h2 := (Cg.refl p y).mul h1
  have h3 := hy.mul (Cg.refl p (x ^ (n - 1)))
  rw [Int.mul_one] at h2
  rw [Int.one_mul] at h3
  refine h2.symm.trans ((Cg.of_eq ?_).trans h3)
  grind
 have hone : ∀ i l, Cg p (sumN n (fun j => x ^ (i * j) * x ^ (l * j) * x ^ ((n - 1) * (j * k)))) (if (i + l) % n = k then (n : Int) else 0) := fun i l => by
  have e : sumN n (fun j => x ^ (i * j) * x ^ (l * j) * x ^ ((n - 1) * (j * k))) = sumN n (fun j => x ^ (j * (i + l + k * (n - 1)))) := sumN_congr (fun j _ => by
   rw [← Int.pow_add, ← Int.pow_add]; congr 1; grind)
  rw [e]
  have h := orth hx (i + l + k * (n - 1))
  rw [hnn] at h
  refine h.trans (Cg.of_eq ?_)
  have hiff : (i + l + k * (n - 1)) % n = 0 ↔ (i + l) % n = k := by
   have e2 : i + l + k * (n - 1) + k = (i + l) + n * k := by
    have : k * (n - 1) + k = n * k := by rw [show n = (n - 1) + 1 from by omega]; simp; grind
    omega
   have e3 : (i + l + k * (n - 1) + k) % n = (i + l) % n := by rw [e2, Nat.add_mul_mod_self_left]
   constructor
   ·intro h0
    rw [Nat.add_mod, h0, Nat.zero_add, Nat.mod_mod, Nat.mod_eq_of_lt hk] at e3
    exact e3.symm
   ·intro h0
    rw [h0] at e3
    have h4 := Nat.mod_lt (i + l + k * (n - 1)) hn
    rw [Nat.add_mod, Nat.mod_eq_of_lt hk] at e3
    generalize (i + l + k * (n - 1)) % n = r at *
    rcases Nat.lt_or_ge (r + k) n with hh | hh
    ·rw [Nat.mod_eq_of_lt hh] at e3; omega
    ·rw [Nat.mod_eq_sub_mod hh, Nat.mod_eq_of_lt (by omega)] at e3; omega
  by_cases hc : (i + l) % n = k
  ·rw [if_pos hc, if_pos (hiff.2 hc)]
  ·rw [if_neg hc, if_neg (fun h => hc (hiff.1 h))]
 have h1 : Cg p (dftV n C y k) (sumN n (fun j => (dftV n a x j * dftV n b x j) * x ^ ((n - 1) * (j * k)))) := by
  unfold dftV
  refine sumN_cg (fun j hj => (hC j hj).mul ?_)
  have := hyx.pow (j * k)
  rwa [← Int.pow_mul] at this
 have h2 : sumN n (fun j => (dftV n a x j * dftV n b x j) * x ^ ((n - 1) * (j * k))) = sumN n (fun i => sumN n (fun l => (a i * b l) * sumN n (fun j => x ^ (i * j) * x ^ (l * j) * x ^ ((n - 1) * (j * k))))) := by
  have e1 : ∀ j, (dftV n a x j * dftV n b x j) * x ^ ((n - 1) * (j * k)) = sumN n (fun i => sumN n (fun l => (a i * b l) * (x ^ (i * j) * x ^ (l * j) * x ^ ((n - 1) * (j * k))))) := fun j => by
   unfold dftV
   rw [Int.mul_assoc, Int.mul_comm, ← sumN_mul]
   refine sumN_congr (fun i _ => ?_)
   rw [show sumN n (fun i => b i * x ^ (i * j)) * x ^ ((n - 1) * (j * k)) * (a i * x ^ (i * j)) = ((a i * x ^ (i * j)) * x ^ ((n - 1) * (j * k))) * sumN n (fun i => b i * x ^ (i * j)) from by grind, ← sumN_mul]
   exact sumN_congr (fun l _ => by grind)
  rw [sumN_congr (fun j _ => e1 j), sumN_swap]
  refine sumN_congr (fun i _ => ?_)
  rw [sumN_swap]
  exact sumN_congr (fun l _ => sumN_mul _ _ _)
 rw [h2] at h1
 have h3 : Cg p (sumN n (fun i => sumN n (fun l => (a i * b l) * sumN n (fun j => x ^ (i * j) * x ^ (l * j) * x ^ ((n - 1) * (j * k)))))) ((n : Int) * cyc n a b k) := by
  unfold cyc
  rw [← sumN_mul]
  refine sumN_cg (fun i _ => ?_)
  rw [← sumN_mul]
  refine sumN_cg (fun l _ => ?_)
  refine ((Cg.refl p (a i * b l)).mul (hone i l)).trans (Cg.of_eq ?_)
  split
  ·grind
  ·grind
 have h4 := (h1.trans h3).mul (Cg.refl p N)
 have h5 := hN.mul (Cg.refl p (cyc n a b k))
 rw [Int.one_mul] at h5
 refine h4.trans ((Cg.of_eq ?_).trans h5)
 grind
theorem cyc_slide (n m k : Nat) (a q : Nat → Int) (hm1 : 1 ≤ m) (hmn : m ≤ n) (hk : k + m ≤ n) (hq : ∀ j, m ≤ j → q j = 0) : cyc n a (fun l => q ((n - l) % n)) k = sumN m (fun j => q j * a (k + j)) := by
 unfold cyc
 have hn : 0 < n := by omega
 have h1 : ∀ i, i < n → sumN n (fun l => if (i + l) % n = k then a i * q ((n - l) % n) else 0) = a i * q ((i + n - k) % n) := fun i hi => by
  have hl : (k + n - i) % n < n := Nat.mod_lt _ hn
  rw [sumN_one ((k + n - i) % n) hl _ (fun l hln hne => by
   rw [if_neg]
   intro e
   apply hne
   rcases Nat.lt_or_ge (i + l) n with h | h
   ·rw [Nat.mod_eq_of_lt h] at e
    rw [show k + n - i = l + n from by omega, Nat.add_mod_right, Nat.mod_eq_of_lt hln]
   ·rw [Nat.mod_eq_sub_mod h, Nat.mod_eq_of_lt (by omega)] at e
    rw [show k + n - i = l from by omega, Nat.mod_eq_of_lt hln])]
  rcases Nat.lt_or_ge k i with h | h
  ·rw [Nat.mod_eq_of_lt (show k + n - i < n from by omega), if_pos (by rw [show i + (k + n - i) = k + n from by omega, Nat.add_mod_right, Nat.mod_eq_of_lt (by omega)])]
   rw [show n - (k + n - i) = i - k from by omega, show i + n - k = (i - k) + n from by omega, Nat.add_mod_right]
  ·rw [show k + n - i = (k - i) + n from by omega, Nat.add_mod_right, Nat.mod_eq_of_lt (show k - i < n from by omega), if_pos (by rw [show i + (k - i) = k from by omega, Nat.mod_eq_of_lt (by omega)])]
   congr 2
   rw [show n - (k - i) = i + n - k from by omega]
 rw [sumN_congr h1, show n = k + (n - k) from by omega, sumN_split]
 rw [← show n = k + (n - k) from by omega]
 rw [sumN_zero k _ (fun i hi => by rw [Nat.mod_eq_of_lt (show i + n - k < n from by omega), hq _ (by omega)]; grind), Int.zero_add]
 rw [show n - k = m + (n - k - m) from by omega, sumN_split]
 rw [sumN_zero (n - k - m) _ (fun i hi => by rw [show k + (m + i) + n - k = (m + i) + n from by omega, Nat.add_mod_right, Nat.mod_eq_of_lt (show m + i < n from by omega), hq _ (by omega)]; grind), Int.add_zero]
 exact sumN_congr (fun j hj => by rw [show k + j + n - k = j + n from by omega, Nat.add_mod_right, Nat.mod_eq_of_lt (show j < n from by omega)]; grind)
def stg (p : Int) (m : Nat) (R : Int) (l : Nat → Int) (s q : Nat) : Int := (dftV (2 ^ s) (fun i => l (i * 2 ^ (m - s) + rv (m - s) (q / 2 ^ s))) (R ^ (2 ^ (m - s))) (q % 2 ^ s)) % p
theorem stg_zero (p : Int) (m : Nat) (R : Int) (l : Nat → Int) (q : Nat) : stg p m R l 0 q = l (rv m q) % p := by
 unfold stg dftV
 simp only [Nat.pow_zero, sumN, Nat.sub_zero, Nat.div_one, Nat.zero_mul, Nat.zero_add, Int.pow_zero, Int.mul_one, Int.zero_add]
theorem stg_all (p : Int) (m : Nat) (R : Int) (l : Nat → Int) (q : Nat) (hq : q < 2 ^ m) : stg p m R l m q = dftV (2 ^ m) l R q % p := by
 unfold stg
 rw [Nat.sub_self, Nat.pow_zero, Int.pow_succ, Int.pow_zero, Int.one_mul, Nat.mod_eq_of_lt hq]
 congr 2
 funext i
 simp [rv]
theorem quot_rem (b h j : Nat) (hj : j < h) : (b * h + j) / h = b ∧ (b * h + j) % h = j := by
 have h0 : 0 < h := by omega
 constructor
 ·rw [Nat.mul_comm, Nat.add_comm, Nat.add_mul_div_left _ _ h0, Nat.div_eq_of_lt hj, Nat.zero_add]
 ·rw [Nat.mul_comm, Nat.add_comm, Nat.add_mul_mod_self_left, Nat.mod_eq_of_lt hj]
theorem stg_fly {p R : Int} {m s b j : Nat} {l : Nat → Int} (hR : RootOf p m R) (hs : s < m) (hj : j < 2 ^ s) {f : Int} (hf : Cg p f ((R ^ (2 ^ (m - s - 1))) ^ j)) :
  (stg p m R l s (b * 2 ^ (s + 1) + j) + stg p m R l s (b * 2 ^ (s + 1) + 2 ^ s + j) * f) % p = stg p m R l (s + 1) (b * 2 ^ (s + 1) + j) ∧
  (stg p m R l s (b * 2 ^ (s + 1) + j) - stg p m R l s (b * 2 ^ (s + 1) + 2 ^ s + j) * f) % p = stg p m R l (s + 1) (b * 2 ^ (s + 1) + 2 ^ s + j) := by
 have hms : m - s = (m - (s + 1)) + 1 := by omega
 have q1 := quot_rem (2 * b) (2 ^ s) j hj
 have q2 := quot_rem (2 * b + 1) (2 ^ s) j hj
 have e1 : 2 * b * 2 ^ s + j = b * 2 ^ (s + 1) + j := by rw [Nat.pow_succ]; grind
 have e2 : (2 * b + 1) * 2 ^ s + j = b * 2 ^ (s + 1) + 2 ^ s + j := by rw [Nat.pow_succ]; grind
 rw [e1] at q1
 rw [e2] at q2
 have q3 := quot_rem b (2 ^ (s + 1)) j (by rw [Nat.pow_succ]; omega)
 have q4 := quot_rem b (2 ^ (s + 1)) (2 ^ s + j) (by rw [Nat.pow_succ]; omega)
 rw [← Nat.add_assoc] at q4
 have hxx : R ^ (2 ^ (m - s - 1)) * R ^ (2 ^ (m - s - 1)) = R ^ (2 ^ (m - s)) := by
  rw [← Int.pow_add]; congr 1
  rw [← Nat.two_mul, ← Nat.pow_succ']; congr 1; omega
 have hxn : Cg p ((R ^ (2 ^ (m - s - 1))) ^ (2 ^ s)) (-1) := by
  rw [← Int.pow_mul, ← Nat.pow_add, show m - s - 1 + s = m - 1 from by omega]
  rcases hR.2 with h | h
  ·omega
  ·exact h
 have hsub : m - (s + 1) = m - s - 1 := by omega
 unfold stg
 rw [q1.1, q1.2, q2.1, q2.2, q3.1, q3.2, q4.1, q4.2, hsub]
 have r0 : rv (m - s) (2 * b) = rv (m - s - 1) b := by
  have := rv_two (m - s - 1) b 0 (by decide)
  rwa [show m - s - 1 + 1 = m - s from by omega, Nat.add_zero, Nat.zero_mul, Nat.zero_add] at this
 have r1 : rv (m - s) (2 * b + 1) = 2 ^ (m - s - 1) + rv (m - s - 1) b := by
  have := rv_two (m - s - 1) b 1 (by decide)
  rwa [show m - s - 1 + 1 = m - s from by omega, Nat.one_mul] at this
 have p2 : 2 ^ (m - s) = 2 * 2 ^ (m - s - 1) := by rw [← Nat.pow_succ', show (m - s - 1).succ = m - s from by omega]
 rw [r0, r1]
 have f0 : (fun i => l (i * 2 ^ (m - s) + rv (m - s - 1) b)) = fun i => l (2 * i * 2 ^ (m - s - 1) + rv (m - s - 1) b) := by
  funext i; congr 2; rw [p2]; grind
 have f1 : (fun i => l (i * 2 ^ (m - s) + (2 ^ (m - s - 1) + rv (m - s - 1) b))) = fun i => l ((2 * i + 1) * 2 ^ (m - s - 1) + rv (m - s - 1) b) := by
  funext i
  have : i * 2 ^ (m - s) + (2 ^ (m - s - 1) + rv (m - s - 1) b) = (2 * i + 1) * 2 ^ (m - s - 1) + rv (m - s - 1) b := by rw [p2]; grind
  rw [this]
 rw [f0, f1, ← hxx]
 generalize hx : R ^ (2 ^ (m - s - 1)) = x at *
 have hlow := dftV_two (2 ^ s) (fun i => l (i * 2 ^ (m - s - 1) + rv (m - s - 1) b)) x j
 have hhigh := dftV_high (p := p) (2 ^ s) (fun i => l (i * 2 ^ (m - s - 1) + rv (m - s - 1) b)) x j hxn
 rw [← Nat.pow_succ'] at hlow hhigh
 generalize dftV (2 ^ s) (fun i => l (2 * i * 2 ^ (m - s - 1) + rv (m - s - 1) b)) (x * x) j = A at *
 generalize dftV (2 ^ s) (fun i => l ((2 * i + 1) * 2 ^ (m - s - 1) + rv (m - s - 1) b)) (x * x) j = B at *
 constructor
 ·rw [hlow]
  refine Cg.emod_eq ?_
  refine ((Cg.emod p A).add ((Cg.emod p B).mul hf)).trans (Cg.of_eq ?_)
  grind
 ·refine Cg.emod_eq ?_
  rw [Nat.add_comm (2 ^ s) j]
  refine (((Cg.emod p A).sub ((Cg.emod p B).mul hf)).trans (Cg.of_eq ?_)).trans hhigh.symm
  grind
def powM (p : Int) : Nat → Int → Nat → Int
 | 0, _, _ => 1 % p
 | f + 1, a, n => if n = 0 then 1 % p else if n % 2 = 1 then (powM p f (a * a % p) (n / 2) * a) % p else powM p f (a * a % p) (n / 2)
theorem powM_eq (p : Int) : ∀ (f : Nat) (a : Int) (n : Nat), n < 2 ^ f → powM p f a n = a ^ n % p := by
 intro f
 induction f with
 | zero => intro a n h; simp at h; subst h; rw [Int.pow_zero]; rfl
 | succ f ih =>
  intro a n h
  unfold powM
  by_cases h0 : n = 0
  ·rw [if_pos h0, h0, Int.pow_zero]
  ·rw [if_neg h0]
   have hlt : n / 2 < 2 ^ f := by rw [Nat.pow_succ] at h; omega
   rw [ih _ _ hlt]
   have hc : Cg p ((a * a % p) ^ (n / 2)) (a ^ (2 * (n / 2))) := by rw [pow_two_mul]; exact (Cg.emod p (a * a)).pow _
   by_cases h1 : n % 2 = 1
   ·rw [if_pos h1]
    refine Cg.emod_eq ?_
    refine (((Cg.emod p _).trans hc).mul (Cg.refl p a)).trans (Cg.of_eq ?_)
    rw [← Int.pow_succ]; congr 1; omega
   ·rw [if_neg h1]
    refine Cg.emod_eq ?_
    refine hc.trans (Cg.of_eq ?_)
    congr 1; omega
def prm (k : Nat) : Nat := if k = 0 then 998244353 else if k = 1 then 167772161 else 469762049
theorem prm_pos (k : Nat) : 1 < prm k := by unfold prm; repeat' split
                                            all_goals decide
theorem prm_lt (k : Nat) : prm k < 1000000000 := by unfold prm; repeat' split
                                                    all_goals decide
def rootE (k m : Nat) : Nat := (prm k - 1) / 2 ^ m
theorem gen_facts : ∀ k : Fin 3, powM (prm k.val) 30 3 (prm k.val - 1) = 1 ∧ powM (prm k.val) 30 3 ((prm k.val - 1) / 2) = (prm k.val - 1 : Nat) ∧ powM (prm k.val) 30 2 (prm k.val - 1) = 1 ∧ (prm k.val - 1) % 4096 = 0 := by decide +kernel
theorem gen_cg (k : Nat) (hk : k < 3) : Cg (prm k) (3 ^ (prm k - 1)) 1 ∧ Cg (prm k) (3 ^ ((prm k - 1) / 2)) (-1) ∧ Cg (prm k) (2 ^ (prm k - 1)) 1 ∧ (prm k - 1) % 4096 = 0 := by
 obtain ⟨h1, h2, h3, h4⟩ := gen_facts ⟨k, hk⟩
 simp only at h1 h2 h3 h4
 have hl := prm_lt k
 have hp := prm_pos k
 rw [powM_eq _ _ _ _ (by omega)] at h1 h2 h3
 refine ⟨?_, ?_, ?_, h4⟩
 ·exact (Cg.emod _ _).symm.trans (Cg.of_eq h1)
 ·refine ((Cg.emod _ _).symm.trans (Cg.of_eq h2)).trans ⟨1, ?_⟩
  omega
 ·exact (Cg.emod _ _).symm.trans (Cg.of_eq h3)
def rootW (k m : Nat) : Int := 3 ^ rootE k m % (prm k : Nat)
theorem rootE_mul (k m : Nat) (hk : k < 3) (hm : m ≤ 12) : rootE k m * 2 ^ m = prm k - 1 := by
 unfold rootE
 have h := (gen_cg k hk).2.2.2
 refine Nat.div_mul_cancel ?_
 have h1 : 2 ^ m ∣ 4096 := by rw [show 4096 = 2 ^ 12 from rfl]; exact Nat.pow_dvd_pow 2 hm
 exact Nat.dvd_trans h1 (Nat.dvd_of_mod_eq_zero h)
theorem rootW_root (k m : Nat) (hk : k < 3) (hm : m ≤ 12) : RootOf (prm k) m (rootW k m) := by
 obtain ⟨h1, h2, -, -⟩ := gen_cg k hk
 have he := rootE_mul k m hk hm
 unfold rootW
 refine ⟨?_, ?_⟩
 ·refine ((Cg.emod _ _).pow _).trans ?_
  rw [← Int.pow_mul, he]; exact h1
 ·rcases Nat.eq_zero_or_pos m with h0 | h0
  ·exact .inl h0
  ·refine .inr (((Cg.emod _ _).pow _).trans ?_)
   rw [← Int.pow_mul]
   have : rootE k m * 2 ^ (m - 1) = (prm k - 1) / 2 := by
    have hpm : 2 ^ m = 2 ^ (m - 1) * 2 := by rw [← Nat.pow_succ]; congr 1; omega
    rw [hpm, ← Nat.mul_assoc] at he
    omega
   rw [this]; exact h2
theorem inv_cg {p a : Int} {q : Nat} (hq : 2 ≤ q) (h : Cg p (a ^ (q - 1)) 1) : Cg p (a * (a ^ (q - 2) % p)) 1 := by
 refine ((Cg.refl p a).mul (Cg.emod p _)).trans ?_
 have e : a * a ^ (q - 2) = a ^ (q - 1) := by rw [show q - 1 = (q - 2) + 1 from by omega, Int.pow_succ, Int.mul_comm]
 rw [e]; exact h
theorem rootW_inv (k m : Nat) (hk : k < 3) (hm : m ≤ 12) : Cg (prm k) (rootW k m * (rootW k m ^ (prm k - 2) % (prm k : Nat))) 1 := by
 refine inv_cg (by have := prm_pos k; omega) ?_
 have he := rootE_mul k m hk hm
 have h := (rootW_root k m hk hm).1
 rw [← he, Nat.mul_comm, Int.pow_mul]
 exact (h.pow _).trans (Cg.of_eq (one_pow' _))
theorem two_inv (k m : Nat) (hk : k < 3) : Cg (prm k) (((2 ^ m : Nat) : Int) * (((2 ^ m : Nat) : Int) ^ (prm k - 2) % (prm k : Nat))) 1 := by
 refine inv_cg (by have := prm_pos k; omega) ?_
 have h := (gen_cg k hk).2.2.1
 push_cast
 rw [← Int.pow_mul, Nat.mul_comm, Int.pow_mul]
 exact (h.pow _).trans (Cg.of_eq (one_pow' _))
theorem join_low (N : Int) (hN : 0 ≤ N ∧ N < 18446744073709551616) {P Q S c1 c2 : Int} (hP : P = 998244353) (hQ : Q = 167772161) (hS : S = 469762049) (h1 : Cg Q (P * c1) 1) (h2 : Cg S (P * Q * c2) 1) :
  ((N % Q - N % P) * c1) % Q = (N / P) % Q ∧ ((N % S - N % P - (N / P) % Q * P) * c2) % S = N / P / Q := by
 have e0 := Int.emod_add_mul_ediv N P
 have e1 := Int.emod_add_mul_ediv (N / P) Q
 constructor
 ·refine Cg.emod_eq ?_
  have a := ((Cg.emod Q N).sub (Cg.refl Q (N % P))).mul (Cg.refl Q c1)
  refine a.trans ?_
  have b := (h1.mul (Cg.refl Q (N / P)))
  rw [Int.one_mul] at b
  refine (Cg.of_eq ?_).trans b
  grind
 ·have a := (((Cg.emod S N).sub (Cg.refl S (N % P))).sub (Cg.refl S ((N / P) % Q * P))).mul (Cg.refl S c2)
  have b := (h2.mul (Cg.refl S (N / P / Q)))
  rw [Int.one_mul] at b
  have c : Cg S ((N % S - N % P - (N / P) % Q * P) * c2) (N / P / Q) := by
   refine a.trans ((Cg.of_eq ?_).trans b)
   grind
  have d := c.emod_eq
  rw [d]
  refine Int.emod_eq_of_lt ?_ ?_
  ·subst hP hQ; omega
  ·subst hP hQ hS; omega
theorem resPrime_any (k : Nat) (hk : k < 3) (w : World) : Calls Tryz.prog 199 #[.int .i64 (k : Nat)] w fun e w' => e = .returned (.int .u64 (prm k : Nat)) ∧ Chg Nothing w w' := by
 have hX := Blk.new w #[.int .u64 998244353, .int .u64 167772161, .int .u64 469762049] 190
 have hC := hid ((Chg.refl Nothing w).alloc (.cells #[.int .u64 998244353, .int .u64 167772161, .int .u64 469762049] 190))
 clear hX
 have hcs : k = 0 ∨ k = 1 ∨ k = 2 := by omega
 rcases hcs with rfl | rfl | rfl
 ·go_enter Tryz.func199, Tryz.ntmps199
  go_wp2
  go_ret
  exact ⟨rfl, hC.out⟩
 ·go_enter Tryz.func199, Tryz.ntmps199
  go_wp2
  go_ret
  exact ⟨rfl, hC.out⟩
 ·go_enter Tryz.func199, Tryz.ntmps199
  go_wp2
  go_ret
  exact ⟨rfl, hC.out⟩
theorem prm_bounds (k : Nat) : (1 : Int) < (prm k : Nat) ∧ ((prm k : Nat) : Int) < 1000000000 := by have := prm_pos k; have := prm_lt k; omega
theorem resOf_any (k : Nat) (hk : k < 3) (a : Int) (w : World) (ha : 0 ≤ a) : Calls Tryz.prog 196 #[.int .i64 (k : Nat), .int .u64 a] w fun e w' => e = .returned (.int .u64 (a % (prm k : Nat))) ∧ Chg Nothing w w' := by
 have hp := hid (resPrime_any k hk)
 obtain ⟨b1, b2⟩ := prm_bounds k
 generalize ((prm k : Nat) : Int) = P at hp b1 b2 ⊢
 have h0 : (P == 0) = false := beq_eq_false_iff_ne.2 (by omega)
 have hrem : Int.tmod a P = a % P := Int.tmod_eq_emod_of_nonneg ha
 go_enter Tryz.func196, Tryz.ntmps196
 go_wp2_with fail
 refine (hp.out w).mono ?_
 rintro e w1 ⟨rfl, hc⟩
 go_wp2
 go_ret
 exact ⟨rfl, hc⟩
theorem prod_bounds {x y : Int} (hx : 0 ≤ x ∧ x < 1000000000) (hy : 0 ≤ y ∧ y < 1000000000) : 0 ≤ x * y ∧ x * y < 1000000000000000000 := by
 refine ⟨Int.mul_nonneg hx.1 hy.1, ?_⟩
 have h1 : x * y ≤ 999999999 * y := Int.mul_le_mul_of_nonneg_right (by omega) hy.1
 omega
theorem mod_prm (k : Nat) (a : Int) : 0 ≤ a % (prm k : Nat) ∧ a % (prm k : Nat) < (prm k : Nat) ∧ a % (prm k : Nat) < 1000000000 := by
 have h := prm_bounds k
 have h1 := Int.emod_nonneg a (show ((prm k : Nat) : Int) ≠ 0 by omega)
 have h2 := Int.emod_lt_of_pos a (show (0 : Int) < (prm k : Nat) by omega)
 omega
theorem resAdd_any (k : Nat) (hk : k < 3) (a b : Int) (w : World) (ha : 0 ≤ a) (hb : 0 ≤ b) : Calls Tryz.prog 204 #[.int .i64 (k : Nat), .int .u64 a, .int .u64 b] w fun e w' => e = .returned (.int .u64 ((a + b) % (prm k : Nat))) ∧ Chg Nothing w w' := by
 have h1 := hid (resOf_any k hk a · ha)
 have h2 := hid (resOf_any k hk b · hb)
 have h3 := hid (fun (z : Int) (hz : 0 ≤ z) w => resOf_any k hk z w hz)
 obtain ⟨x0, -, x1⟩ := mod_prm k a
 obtain ⟨y0, -, y1⟩ := mod_prm k b
 have he := hid (Int.add_emod a b (prm k : Nat)).symm
 generalize a % ((prm k : Nat) : Int) = x at h1 x0 x1 he
 generalize b % ((prm k : Nat) : Int) = y at h2 y0 y1 he
 rw [← he.out]
 have s0 : 0 ≤ x + y := by omega
 clear he
 go_enter Tryz.func204, Tryz.ntmps204
 go_wp2_with fail
 refine (h1.out w).mono ?_
 rintro e w1 ⟨rfl, hc1⟩
 have hC1 := hid hc1
 clear hc1
 go_wp2_with fail
 refine (h2.out w1).mono ?_
 rintro e w2 ⟨rfl, hc2⟩
 have hC2 := hid (hC1.out.trans hc2)
 clear hc2
 go_wp2_with fail
 refine (h3.out _ s0 w2).mono ?_
 rintro e w3 ⟨rfl, hc3⟩
 go_wp2
 go_ret
 exact ⟨rfl, hC2.out.trans hc3⟩
theorem resSub_any (k : Nat) (hk : k < 3) (a b : Int) (w : World) (ha : 0 ≤ a) (hb : 0 ≤ b) : Calls Tryz.prog 205 #[.int .i64 (k : Nat), .int .u64 a, .int .u64 b] w fun e w' => e = .returned (.int .u64 ((a - b) % (prm k : Nat))) ∧ Chg Nothing w w' := by
 have h1 := hid (resOf_any k hk a · ha)
 have h2 := hid (resOf_any k hk b · hb)
 have h3 := hid (fun (z : Int) (hz : 0 ≤ z) w => resOf_any k hk z w hz)
 have hP := hid (resPrime_any k hk)
 obtain ⟨x0, -, x1⟩ := mod_prm k a
 obtain ⟨y0, yp, y1⟩ := mod_prm k b
 obtain ⟨b1, b2⟩ := prm_bounds k
 have he := hid (show (a % ((prm k : Nat) : Int) + (prm k : Nat) - b % ((prm k : Nat) : Int)) % (prm k : Nat) = (a - b) % (prm k : Nat) from by
  refine Cg.emod_eq ?_
  refine (((Cg.emod _ a).add (Cg.zero _)).sub (Cg.emod _ b)).trans (Cg.of_eq (by omega)))
 generalize a % ((prm k : Nat) : Int) = x at h1 x0 x1 he
 generalize b % ((prm k : Nat) : Int) = y at h2 y0 y1 yp he
 rw [← he.out]
 clear he
 generalize ((prm k : Nat) : Int) = P at *
 have s0 : 0 ≤ x + P := by omega
 have s1 : 0 ≤ x + P - y := by omega
 go_enter Tryz.func205, Tryz.ntmps205
 go_wp2_with fail
 refine (h1.out w).mono ?_
 rintro e w1 ⟨rfl, hc1⟩
 have hC1 := hid hc1
 clear hc1
 go_wp2_with fail
 refine (hP.out w1).mono ?_
 rintro e w2 ⟨rfl, hc2⟩
 have hC2 := hid (hC1.out.trans hc2)
 clear hc2
 go_wp2_with fail
 refine (h2.out w2).mono ?_
 rintro e w3 ⟨rfl, hc3⟩
 have hC3 := hid (hC2.out.trans hc3)
 clear hc3
 go_wp2_with fail
 refine (h3.out _ s1 w3).mono ?_
 rintro e w4 ⟨rfl, hc4⟩
 go_wp2
 go_ret
 exact ⟨rfl, hC3.out.trans hc4⟩
theorem resMul_any (k : Nat) (hk : k < 3) (a b : Int) (w : World) (ha : 0 ≤ a) (hb : 0 ≤ b) : Calls Tryz.prog 183 #[.int .i64 (k : Nat), .int .u64 a, .int .u64 b] w fun e w' => e = .returned (.int .u64 ((a * b) % (prm k : Nat))) ∧ Chg Nothing w w' := by
 have h1 := hid (resOf_any k hk a · ha)
 have h2 := hid (resOf_any k hk b · hb)
 have h3 := hid (fun (z : Int) (hz : 0 ≤ z) w => resOf_any k hk z w hz)
 obtain ⟨x0, -, x1⟩ := mod_prm k a
 obtain ⟨y0, -, y1⟩ := mod_prm k b
 have he := hid (Int.mul_emod a b (prm k : Nat)).symm
 generalize a % ((prm k : Nat) : Int) = x at h1 x0 x1 he
 generalize b % ((prm k : Nat) : Int) = y at h2 y0 y1 he
 rw [← he.out]
 obtain ⟨s0, s1⟩ := prod_bounds ⟨x0, x1⟩ ⟨y0, y1⟩
 have hw : IntKind.u64.wrap (x * y) = x * y := by rw [IntKind.wrap_u64]; exact Int.emod_eq_of_lt s0 (by omega)
 clear he
 go_enter Tryz.func183, Tryz.ntmps183
 go_wp2_with fail
 refine (h1.out w).mono ?_
 rintro e w1 ⟨rfl, hc1⟩
 have hC1 := hid hc1
 clear hc1
 go_wp2_with fail
 refine (h2.out w1).mono ?_
 rintro e w2 ⟨rfl, hc2⟩
 have hC2 := hid (hC1.out.trans hc2)
 clear hc2
 go_wp2_with fail
 refine (h3.out _ s0 w2).mono ?_
 rintro e w3 ⟨rfl, hc3⟩
 go_wp2
 go_ret
 exact ⟨rfl, hC2.out.trans hc3⟩
theorem bit0 (m : Nat) (h : m < 18446744073709551616) : bits .and .u64 (m : Int) 1 = ((m % 2 : Nat) : Int) := by
 show IntKind.u64.wrap ((BitVec.ofInt 64 (m : Int) &&& BitVec.ofInt 64 1).toNat : Int) = _
 have e : (BitVec.ofInt 64 (m : Int) &&& BitVec.ofInt 64 1).toNat = m % 2 := by
  rw [BitVec.toNat_and]
  have h1 : (BitVec.ofInt 64 (m : Int)).toNat = m := by simp; omega
  have h2 : (BitVec.ofInt 64 1).toNat = 1 := rfl
  rw [h1, h2, Nat.and_one_is_mod]
 rw [e, IntKind.wrap_u64]
 omega
def PowJ (w : World) (k : Nat) (a : Int) (n : Nat) (a' : Act) (wr : World) : Prop := ∃ (x o z : Int) (m : Nat) (u8 u9 u10 u11 u12 u13 u14 u15 u16 u17 u18 u19 u20 u21 u22 u23 u24 u25 : Value),
 a' = { tmps := #[.int .i64 (k : Nat), .int .u64 x, .int .u64 z, undef, undef, undef, .int .u64 0, .int .u64 o, u8, u9, u10, u11, u12, u13, u14, u15, u16, u17, u18, u19, u20, u21, u22, u23, u24, u25], defers := [] } ∧
 z = (m : Nat) ∧ 0 ≤ x ∧ 0 ≤ o ∧ o < (prm k : Nat) ∧ m < 18446744073709551616 ∧ Hid (Cg (prm k : Nat) (o * x ^ m) (a ^ n)) ∧ Chg Nothing w wr
def slotN (a : Act) : Nat := match a.tmps.getD 2 undef with | .int _ m => m.toNat | _ => 0
theorem resPow_any (k : Nat) (hk : k < 3) (a : Int) (n : Nat) (w : World) (ha : 0 ≤ a) (hn : n < 18446744073709551616) : Calls Tryz.prog 200 #[.int .i64 (k : Nat), .int .u64 a, .int .u64 (n : Nat)] w fun e w' => e = .returned (.int .u64 (a ^ n % (prm k : Nat))) ∧ Chg Nothing w w' := by
 have h1 := hid (resOf_any k hk 1 · (by decide))
 have hM := hid (fun (x y : Int) (hx : 0 ≤ x) (hy : 0 ≤ y) w => resMul_any k hk x y w hx hy)
 obtain ⟨b1, b2⟩ := prm_bounds k
 go_enter Tryz.func200, Tryz.ntmps200
 go_wp2_with fail
 refine wp_scope_one 0 (PowJ w k a n) (fun a' _ => slotN a') rfl ?_ ?_
 ·rintro a' wr ⟨x, o, z, m, u8, u9, u10, u11, u12, u13, u14, u15, u16, u17, u18, u19, u20, u21, u22, u23, u24, u25, rfl, hz, hx, ho, hop, hm, hcg, hchg⟩
  by_cases hm0 : m = 0
  ·subst hm0
   obtain rfl : z = 0 := by omega
   clear hz hm
   have hfin := hid (show o = a ^ n % (prm k : Nat) from by
    have := hcg.out
    rw [Int.pow_zero, Int.mul_one] at this
    rw [← this.emod_eq]; exact (Int.emod_eq_of_lt ho hop).symm)
   go_wp2
   try simp only [jumps]
   go_ret
   exact ⟨(show Ending.returned (Value.int .u64 o) = _ from by rw [hfin.out]), hchg⟩
  ·have hm0' : (z == 0) = false := beq_eq_false_iff_ne.2 (by omega)
   have hz0 : 0 ≤ z := by omega
   obtain ⟨rb, hb0, hrb⟩ : ∃ rb : Int, bits .and .u64 z 1 = rb ∧ rb = ((m % 2 : Nat) : Int) := ⟨_, by rw [hz]; exact bit0 m hm, rfl⟩
   have hdiv := hid (show z / 2 = ((m / 2 : Nat) : Int) from by omega)
   replace hz := hid hz
   have hpx := mod_prm k (x * x)
   have hpo := mod_prm k (o * x)
   have hm0h := hid hm0
   clear hm0
   by_cases h2 : m % 2 = 1
   ·have hb1 : (rb == 1) = true := beq_iff_eq.2 (by omega)
    replace hrb := hid hrb
    replace h2 := hid h2
    have hcg2 := hid (show Cg (prm k : Nat) (o * x % (prm k : Nat) * (x * x % (prm k : Nat)) ^ (m / 2)) (a ^ n) from by
     refine (((Cg.emod _ _).mul ((Cg.emod _ _).pow _)).trans (Cg.of_eq ?_)).trans hcg.out
     rw [← pow_two_mul, Int.mul_assoc, ← Int.pow_succ']; congr 2; have := h2.out; omega)
    go_wp2_with fail
    refine (hM.out o x ho hx _).mono ?_
    rintro e w1 ⟨rfl, hc1⟩
    have hC1 := hid (hchg.trans hc1)
    clear hc1
    go_wp2_with fail
    refine (hM.out x x hx hx _).mono ?_
    rintro e w2 ⟨rfl, hc2⟩
    have hC2 := hid (hC1.out.trans hc2)
    clear hc2
    go_wp2
    go_step3
    refine ⟨rfl, ⟨x * x % (prm k : Nat), o * x % (prm k : Nat), z / 2, m / 2, _, _, _, _, _, _, _, _, _, _, _, _, _, _, _, _, _, _, rfl, hdiv.out, hpx.1, hpo.1, hpo.2.1, by omega, hcg2, hC2.out⟩, ?_⟩
    simp [slotN]; have := hm0h.out; have := hz.out; omega
   ·have hb1 : (rb == 1) = false := beq_eq_false_iff_ne.2 (by omega)
    replace hrb := hid hrb
    replace h2 := hid h2
    have hcg2 := hid (show Cg (prm k : Nat) (o * (x * x % (prm k : Nat)) ^ (m / 2)) (a ^ n) from by
     refine (((Cg.refl _ _).mul ((Cg.emod _ _).pow _)).trans (Cg.of_eq ?_)).trans hcg.out
     rw [← pow_two_mul]; congr 2; have := h2.out; omega)
    go_wp2_with fail
    refine (hM.out x x hx hx _).mono ?_
    rintro e w2 ⟨rfl, hc2⟩
    have hC2 := hid (hchg.trans hc2)
    clear hc2
    go_wp2
    go_step3
    refine ⟨rfl, ⟨x * x % (prm k : Nat), o, z / 2, m / 2, _, _, _, _, _, _, _, _, _, _, _, _, _, _, _, _, _, _, rfl, hdiv.out, hpx.1, ho, hop, by omega, hcg2, hC2.out⟩, ?_⟩
    simp [slotN]; have := hm0h.out; have := hz.out; omega
 ·intro hl
  have hrun := hid hl
  clear hl
  have hp1 := mod_prm k 1
  have hcg := hid (show Cg (prm k : Nat) (1 % (prm k : Nat) * a ^ n) (a ^ n) from ((Cg.emod _ 1).mul (Cg.refl _ _)).trans (Cg.of_eq (by rw [Int.one_mul])))
  go_wp2_with fail
  refine (h1.out _).mono ?_
  rintro e w1 ⟨rfl, hc1⟩
  go_wp2
  go_step3
  refine (‹∀ (a : Act) (w : World), Code.wp _ _ _ a w → _›) _ _ (hrun.out _ _ ⟨a, 1 % (prm k : Nat), (n : Nat), n, _, _, _, _, _, _, _, _, _, _, _, _, _, _, _, _, _, _, rfl, rfl, ha, hp1.1, hp1.2.1, hn, hcg, hc1⟩)
theorem resInv_any (k : Nat) (hk : k < 3) (a : Int) (w : World) (ha : 0 ≤ a) (h0 : a % (prm k : Nat) ≠ 0) : Calls Tryz.prog 197 #[.int .i64 (k : Nat), .int .u64 a] w fun e w' => e = .returned (.tuple #[.int .u64 (a ^ (prm k - 2) % (prm k : Nat)), .bool true]) ∧ Chg Nothing w w' := by
 have h1 := hid (resOf_any k hk a · ha)
 have hP := hid (resPrime_any k hk)
 have hW := hid (fun (z : Int) (hz : z = (prm k - 2 : Nat)) (w : World) => by have := resPow_any k hk a (prm k - 2) w ha (by have := prm_lt k; omega); rw [← hz] at this; exact this)
 have hb : (a % ((prm k : Nat) : Int) == 0) = false := beq_eq_false_iff_ne.2 h0
 have hz := hid (show ((prm k : Nat) : Int) - 2 = ((prm k - 2 : Nat) : Int) from by have := prm_pos k; omega)
 obtain ⟨b1, b2⟩ := prm_bounds k
 have b3 : ((prm k : Nat) : Int) - 2 ≥ 0 := by omega
 obtain ⟨P, hPe⟩ : ∃ P : Int, P = ((prm k : Nat) : Int) := ⟨_, rfl⟩
 obtain ⟨r, hr⟩ : ∃ r : Int, r = a % ((prm k : Nat) : Int) := ⟨_, rfl⟩
 obtain ⟨q, hq⟩ : ∃ q : Int, q = a ^ (prm k - 2) % ((prm k : Nat) : Int) := ⟨_, rfl⟩
 rw [← hr] at h1 hb
 rw [← hq] at hW ⊢
 rw [← hPe] at hP hz b1 b2 b3
 replace hPe := hid hPe
 replace hr := hid hr
 replace hq := hid hq
 clear h0
 go_enter Tryz.func197, Tryz.ntmps197
 go_wp2_with fail
 refine (h1.out w).mono ?_
 rintro e w1 ⟨rfl, hc1⟩
 have hC1 := hid hc1
 clear hc1
 go_wp2_with fail
 refine (hP.out w1).mono ?_
 rintro e w2 ⟨rfl, hc2⟩
 have hC2 := hid (hC1.out.trans hc2)
 clear hc2
 go_wp2_with fail
 refine (hW.out _ hz.out w2).mono ?_
 rintro e w3 ⟨rfl, hc3⟩
 go_wp2
 refine bodyPost_ret (v := .tuple #[.int .u64 q, .bool true]) (by simp [results, Tryz.results197, go_sem]) rfl ⟨rfl, hC2.out.trans hc3⟩
theorem resRoot_any (k m : Nat) (hk : k < 3) (hm : m ≤ 12) (w : World) : Calls Tryz.prog 193 #[.int .i64 (k : Nat), .int .i64 (m : Nat)] w fun e w' => e = .returned (.tuple #[.int .u64 (rootW k m), .bool true]) ∧ Chg Nothing w w' := by
 have hP := hid (resPrime_any k hk)
 have hW := hid (fun (z : Int) (hz : z = (rootE k m : Nat)) (w : World) => by have := resPow_any k hk 3 (rootE k m) w (by decide) (by have := prm_lt k; unfold rootE; have := Nat.div_le_self (prm k - 1) (2 ^ m); omega); rw [← hz] at this; exact this)
 obtain ⟨b1, b2⟩ := prm_bounds k
 have b3 : 0 ≤ ((prm k : Nat) : Int) - 1 := by omega
 have hb : (((prm k : Nat) : Int) == 0) = false := beq_eq_false_iff_ne.2 (by omega)
 have hz := hid (show (((prm k : Nat) : Int) - 1) / 2 ^ m = ((rootE k m : Nat) : Int) from by
  unfold rootE
  have := prm_pos k
  rw [Int.natCast_ediv, Int.natCast_pow]
  congr 1
  omega)
 have hm0 : decide ((m : Int) < 0) = false := decide_eq_false (by omega)
 have hm12 : decide ((12 : Int) < (m : Int)) = false := decide_eq_false (by omega)
 obtain ⟨P, hPe⟩ : ∃ P : Int, P = ((prm k : Nat) : Int) := ⟨_, rfl⟩
 rw [show (3 : Int) ^ rootE k m % ((prm k : Nat) : Int) = rootW k m from by unfold rootW; rfl] at hW
 obtain ⟨rw_, hrw⟩ : ∃ r : Int, r = rootW k m := ⟨_, rfl⟩
 rw [← hrw] at hW ⊢
 replace hrw := hid hrw
 rw [← hPe] at hP hz b1 b2 b3 hb
 replace hPe := hid hPe
 go_enter Tryz.func193, Tryz.ntmps193
 go_wp2_with fail
 refine (hP.out w).mono ?_
 rintro e w1 ⟨rfl, hc1⟩
 have hC1 := hid hc1
 clear hc1
 go_wp2_with fail
 refine (hP.out w1).mono ?_
 rintro e w2 ⟨rfl, hc2⟩
 have hC2 := hid (hC1.out.trans hc2)
 clear hc2
 go_wp2_with fail
 refine (hW.out _ hz.out w2).mono ?_
 rintro e w3 ⟨rfl, hc3⟩
 go_wp2
 refine bodyPost_ret (v := .tuple #[.int .u64 rw_, .bool true]) (by simp [results, Tryz.results193, go_sem]) rfl ⟨rfl, hC2.out.trans hc3⟩
def FBlk (w : World) (g n : Nat) (f : Nat → Int) (T : TypeId) : Prop := Blk w g ((List.range n).map fun q => Value.int .u64 (f q)).toArray T
theorem FBlk.cell {w : World} {g n : Nat} {f : Nat → Int} {T : TypeId} (h : FBlk w g n f T) {q : Nat} (hq : q < n) : w.cell? ⟨g, q, none⟩ = some (.int .u64 (f q)) := Blk.cell h q (by simp [hq])
theorem FBlk.free {w : World} {g n : Nat} {f : Nat → Int} {T : TypeId} (h : FBlk w g n f T) (q : Nat) : w.frozen? ⟨g, q, none⟩ = false := Blk.free h q
theorem FBlk.lt {w : World} {g n : Nat} {f : Nat → Int} {T : TypeId} (h : FBlk w g n f T) : g < w.heap.size := Blk.lt h
theorem FBlk.chg {S : Nat → Prop} {w w' : World} {g n : Nat} {f : Nat → Int} {T : TypeId} (h : FBlk w g n f T) (hc : Chg S w w') (hn : ¬ S g) : FBlk w' g n f T := Blk.chg h hc hn
theorem FBlk.congr {w : World} {g n : Nat} {f f' : Nat → Int} {T : TypeId} (h : FBlk w g n f T) (he : ∀ q, q < n → f q = f' q) : FBlk w g n f' T := by
 unfold FBlk at h ⊢
 rwa [show ((List.range n).map fun q => Value.int .u64 (f' q)) = ((List.range n).map fun q => Value.int .u64 (f q)) from List.map_congr_left (fun q hq => by rw [he q (by simpa using hq)])]
theorem FBlk.set {w : World} {g n : Nat} {f : Nat → Int} {T : TypeId} (h : FBlk w g n f T) (q : Nat) (v : Int) : FBlk (w.setCell ⟨g, q, none⟩ (.int .u64 v)) g n (fun x => if x = q then v else f x) T := by
 have h1 := Blk.set h q (.int .u64 v)
 unfold FBlk
 rw [show ((List.range n).map fun x => Value.int .u64 (if x = q then v else f x)).toArray = (((List.range n).map fun x => Value.int .u64 (f x)).toArray).setIfInBounds q (.int .u64 v) from by
  apply Array.ext
  ·simp
  ·intro i h1 h2
   simp at h1
   rw [Array.getElem_setIfInBounds (by simpa using h1)]
   by_cases hq : q = i
   ·subst hq; simp
   ·rw [if_neg hq]; simp; intro e; exact absurd e.symm hq]
 exact h1
theorem FBlk.els {w : World} {g n : Nat} {f : Nat → Int} {T : TypeId} (h : FBlk w g n f T) (o m c : Nat) (hm : o + m ≤ n) (hc : m ≤ c) (hx : c ≤ 9223372036854775807) : ElsAt (Value.int .u64) 0 (fun k => k = g) w (some ⟨g, o, none⟩) m c ((List.range m).map fun i => f (o + i)) := by
 refine ⟨(fun e => by cases e), hc, hx, by simp, fun _ => ⟨g, o, rfl, rfl, h.lt, fun j hj => ?_⟩⟩
 rw [h.cell (by omega)]
 simp [hj]
abbrev U64At (F : Nat → Prop) (w : World) (A : Option Addr) (n c : Nat) (xs : List Int) : Prop := ElsAt (Value.int .u64) 0 F w A n c xs
def logS (n : Int) : Option Nat := (List.range 13).find? fun m => n == 2 ^ m
theorem logS_some {n : Int} {m : Nat} : logS n = some m ↔ m ≤ 12 ∧ n = 2 ^ m := by
 unfold logS
 rw [List.find?_eq_some_iff_getElem]
 constructor
 ·rintro ⟨h1, i, hi, h2, -⟩
  simp at hi h2
  exact ⟨by omega, by simpa using h1⟩
 ·rintro ⟨h1, h2⟩
  refine ⟨by simpa using h2, m, by simp; omega, by simp, fun j hj => ?_⟩
  simp
  intro e
  rw [h2] at e
  have h3 : (2 : Int) ^ m = ((2 ^ m : Nat) : Int) := by rw [Int.natCast_pow]; rfl
  have h4 : (2 : Int) ^ j = ((2 ^ j : Nat) : Int) := by rw [Int.natCast_pow]; rfl
  rw [h3, h4] at e
  have h5 : 2 ^ m = 2 ^ j := by exact Int.ofNat_inj.1 e
  have := Nat.pow_lt_pow_right (show 1 < 2 by decide) hj
  omega
theorem logS_none {n : Int} : logS n = none ↔ ∀ m, m ≤ 12 → n ≠ 2 ^ m := by
 unfold logS
 rw [List.find?_eq_none]
 constructor
 ·intro h m hm e; exact h m (by simp; omega) (by simpa using e)
 ·intro h m hm; simp at hm; simpa using h m (by omega)
theorem pow2_le (k : Nat) (hk : k ≤ 12) : (1 : Int) ≤ 2 ^ k ∧ (2 : Int) ^ k ≤ 4096 := by
 have h : (2 : Int) ^ k = ((2 ^ k : Nat) : Int) := by rw [Int.natCast_pow]; rfl
 rw [h]
 have h1 := Nat.pow_le_pow_right (show 0 < 2 by decide) hk
 have h2 := Nat.two_pow_pos k
 have h3 : 2 ^ 12 = 4096 := rfl
 omega
theorem nttLog_any (n : Int) (w : World) : Calls Tryz.prog 27 #[.int .i64 n] w fun e w' => e = .returned (.tuple #[.int .i64 ((logS n).getD 0 : Nat), .bool (logS n).isSome]) ∧ w' = w := by
 go_enter Tryz.func27, Tryz.ntmps27
 go_wp2_with fail
 go_loopw [5] (fun iv wr => ∃ k : Nat, k ≤ 13 ∧ iv = .int .i64 k ∧ Hid (∀ j, j < k → n ≠ 2 ^ j) ∧ wr = w) (fun iv _ => 13 - (intOf iv).toNat)
 case atStart => exact ⟨0, by omega, rfl, hid (fun j hj => by omega), rfl⟩
 case round =>
  obtain ⟨k, hk, rfl, hno, rfl⟩ := hrel
  rcases Nat.lt_or_ge k 13 with hk13 | hk13
  ·obtain ⟨p1, p2⟩ := pow2_le k (by omega)
   have hki : decide ((k : Int) < 13) = true := decide_eq_true (by omega)
   have hk0 : (0 : Int) ≤ (k : Int) := by omega
   by_cases hn : n = 2 ^ k
   ·have hres := hid (show logS n = some k from logS_some.2 ⟨by omega, hn⟩)
    have hb : (n == 2 ^ k) = true := beq_iff_eq.2 hn
    replace hn := hid hn
    go_wp2
    refine bodyPost_ret (v := .tuple #[.int .i64 (k : Nat), .bool true]) (by simp [results, Tryz.results27, go_sem]) rfl ⟨by rw [hres.out]; rfl, rfl⟩
   ·have hb : (n == 2 ^ k) = false := beq_eq_false_iff_ne.2 hn
    have hno2 := hid (show ∀ j, j < k + 1 → n ≠ 2 ^ j from fun j hj => by
     rcases Nat.lt_or_ge j k with h | h
     ·exact hno.out j h
     ·obtain rfl : j = k := by omega
      exact hn)
    replace hn := hid hn
    go_wp2
    go_roundw
    case rel => exact ⟨k + 1, by omega, by go_num, hno2, trivial⟩
    case measure => simp [intOf]; omega
  ·have hki : decide ((k : Int) < 13) = false := decide_eq_false (by omega)
   have hres := hid (show logS n = none from logS_none.2 (fun m hm => hno.out m (by omega)))
   go_wp2
   refine bodyPost_ret (v := .tuple #[.int .i64 0, .bool false]) (by simp [results, Tryz.results27, go_sem]) rfl ⟨by rw [hres.out]; rfl, rfl⟩
theorem ord_or (o c : Nat) (ho : o < 4096) (hc : c < 2) : bits .or .i64 ((2 * o : Nat) : Int) (c : Int) = ((2 * o + c : Nat) : Int) := by
 have h1 : (BitVec.ofInt 64 ((2 * o : Nat) : Int)).toNat = 2 * o := by rw [BitVec.toNat_ofInt]; omega
 have h2 : (BitVec.ofInt 64 (c : Int)).toNat = c := by rw [BitVec.toNat_ofInt]; omega
 have e : (BitVec.ofInt 64 ((2 * o : Nat) : Int) ||| BitVec.ofInt 64 (c : Int)).toNat = 2 * o + c := by
  rw [BitVec.toNat_or, h1, h2]
  have : 2 * o ||| c = 2 * o + c := by
   have := Nat.two_pow_add_eq_or_of_lt (i := 1) (b := c) (by omega) o
   rw [Nat.pow_one] at this
   exact this.symm
  exact this
 show IntKind.i64.wrap ((BitVec.ofInt 64 ((2 * o : Nat) : Int) ||| BitVec.ofInt 64 (c : Int)).toNat : Int) = _
 rw [e, IntKind.wrap_i64]
 omega
theorem ord_and (i : Nat) (hi : i < 4096) : bits .and .i64 (i : Int) 1 = ((i % 2 : Nat) : Int) := by
 have h1 : (BitVec.ofInt 64 (i : Int)).toNat = i := by rw [BitVec.toNat_ofInt]; omega
 have h2 : (BitVec.ofInt 64 1).toNat = 1 := rfl
 have e : (BitVec.ofInt 64 (i : Int) &&& BitVec.ofInt 64 1).toNat = i % 2 := by rw [BitVec.toNat_and, h1, h2, Nat.and_one_is_mod]
 show IntKind.i64.wrap ((BitVec.ofInt 64 (i : Int) &&& BitVec.ofInt 64 1).toNat : Int) = _
 rw [e, IntKind.wrap_i64]
 omega
theorem order_any (i m : Nat) (hi : i < 4096) (hm : m ≤ 12) (w : World) : Calls Tryz.prog 201 #[.int .i64 (i : Nat), .int .i64 (m : Nat)] w fun e w' => e = .returned (.int .i64 (rv m i : Nat)) ∧ w' = w := by
 have hmI : (m : Int) ≤ 12 := by omega
 go_enter Tryz.func201, Tryz.ntmps201
 go_wp2_with fail
 go_loopw [0, 5, 7] (fun iv ov tv wr => ∃ (k a : Nat) (z o : Int), k ≤ m ∧ tv = .int .i64 k ∧ iv = .int .i64 z ∧ ov = .int .i64 o ∧ Hid (z = (a : Nat) ∧ o = (rv k i : Nat) ∧ a = i / 2 ^ k) ∧ wr = w) (fun _ _ tv _ => m - (intOf tv).toNat)
 case atStart => exact ⟨0, i, _, _, Nat.zero_le _, rfl, rfl, rfl, hid ⟨rfl, rfl, by simp⟩, rfl⟩
 case round =>
  obtain ⟨k, a, z, o, hk, rfl, rfl, rfl, hrel, rfl⟩ := hrel
  rcases Nat.lt_or_ge k m with hkm | hkm
  ·have hkI : (k : Int) < (m : Int) := by omega
   have hk0 : (0 : Int) ≤ (k : Int) := by omega
   obtain ⟨hz, ho, ha⟩ := hrel.out
   have ha2 : a < 4096 := by rw [ha]; exact Nat.lt_of_le_of_lt (Nat.div_le_self _ _) hi
   have hr := rv_lt k i
   have hr2 : rv k i < 4096 := Nat.lt_of_lt_of_le hr (by rw [show 4096 = 2 ^ 12 from rfl]; exact Nat.pow_le_pow_right (by decide) (by omega))
   obtain ⟨c, hc1, hc2⟩ : ∃ c : Int, bits .and .i64 z 1 = c ∧ c = ((a % 2 : Nat) : Int) := ⟨_, by rw [hz]; exact ord_and a ha2, rfl⟩
   obtain ⟨v, hv1, hv2⟩ : ∃ v : Int, bits .or .i64 (o * 2) c = v ∧ v = (rv (k + 1) i : Nat) := ⟨_, by
    rw [ho, hc2, show ((rv k i : Nat) : Int) * 2 = ((2 * rv k i : Nat) : Int) from by omega, ord_or _ _ hr2 (by omega)]
    rw [show rv (k + 1) i = 2 * rv k i + i / 2 ^ k % 2 from rfl, ha], rfl⟩
   have ho0 : 0 ≤ o := by omega
   have ho1 : o < 4096 := by omega
   have hz0 : 0 ≤ z := by omega
   have hz1 : z < 4096 := by omega
   have hnx := hid (show z / 2 = ((a / 2 : Nat) : Int) ∧ v = (rv (k + 1) i : Nat) ∧ a / 2 = i / 2 ^ (k + 1) from ⟨by omega, hv2, by rw [ha, Nat.pow_succ, Nat.div_div_eq_div_mul]⟩)
   clear hz ho ha ha2 hr hr2 hc2 hv2 hrel
   go_wp2
   go_roundw
   case rel => exact ⟨k + 1, a / 2, _, _, by omega, by go_num, rfl, rfl, hnx, trivial⟩
   case measure => simp [intOf]; omega
  ·obtain rfl : k = m := by omega
   have hd : decide ((k : Int) < (k : Int)) = false := decide_eq_false (by omega)
   obtain ⟨hz, ho, ha⟩ := hrel.out
   have hoh := hid ho
   clear hz ho ha
   go_wp2
   go_ret
   exact ⟨(show Ending.returned (Value.int .i64 o) = _ from by rw [hoh.out]), rfl⟩
def flyF (P : Int) (c : Nat → Int) (at_ half i : Nat) (wv : Int) (q : Nat) : Int :=
 if at_ ≤ q ∧ q < at_ + i then (c q + c (q + half) * (wv ^ (q - at_) % P) % P) % P
 else if at_ + half ≤ q ∧ q < at_ + half + i then (c (q - half) - c q * (wv ^ (q - at_ - half) % P) % P) % P
 else c q
theorem flyF_zero (P : Int) (c : Nat → Int) (at_ half : Nat) (wv : Int) (q : Nat) : flyF P c at_ half 0 wv q = c q := by
 unfold flyF; rw [if_neg (by omega), if_neg (by omega)]
theorem flyF_low (P : Int) (c : Nat → Int) (at_ half i : Nat) (wv : Int) (hi : i < half) : flyF P c at_ half i wv (at_ + i) = c (at_ + i) := by
 unfold flyF; rw [if_neg (by omega), if_neg (by omega)]
theorem flyF_high (P : Int) (c : Nat → Int) (at_ half i : Nat) (wv : Int) (hi : i < half) : flyF P c at_ half i wv (at_ + half + i) = c (at_ + half + i) := by
 unfold flyF; rw [if_neg (by omega), if_neg (by omega)]
theorem flyF_succ (P : Int) (c : Nat → Int) (at_ half i : Nat) (wv f : Int) (hi : i < half) (hf : f = wv ^ i % P) (q : Nat) :
  (if q = at_ + half + i then (c (at_ + i) - c (at_ + half + i) * f % P) % P else if q = at_ + i then (c (at_ + i) + c (at_ + half + i) * f % P) % P else flyF P c at_ half i wv q) = flyF P c at_ half (i + 1) wv q := by
 by_cases h1 : q = at_ + half + i
 ·subst h1
  rw [if_pos rfl]
  unfold flyF
  rw [if_neg (by omega), if_pos (by omega), hf, show at_ + half + i - half = at_ + i from by omega, show at_ + half + i - at_ - half = i from by omega]
 ·rw [if_neg h1]
  by_cases h2 : q = at_ + i
  ·subst h2
   rw [if_pos rfl]
   unfold flyF
   rw [if_pos (by omega), hf, show at_ + i + half = at_ + half + i from by omega, show at_ + i - at_ = i from by omega]
  ·rw [if_neg h2]
   unfold flyF
   by_cases h3 : at_ ≤ q ∧ q < at_ + i
   ·rw [if_pos h3, if_pos (show at_ ≤ q ∧ q < at_ + (i + 1) from by omega)]
   ·rw [if_neg h3, if_neg (show ¬ (at_ ≤ q ∧ q < at_ + (i + 1)) from by omega)]
    by_cases h4 : at_ + half ≤ q ∧ q < at_ + half + i
    ·rw [if_pos h4, if_pos (show at_ + half ≤ q ∧ q < at_ + half + (i + 1) from by omega)]
    ·rw [if_neg h4, if_neg (show ¬ (at_ + half ≤ q ∧ q < at_ + half + (i + 1)) from by omega)]
def FlyInv (w : World) (k g n at_ half : Nat) (c : Nat → Int) (wv : Int) (T : TypeId) (fv iv : Value) (wr : World) : Prop := ∃ (i : Nat) (f : Int), i ≤ half ∧ iv = .int .i64 i ∧ fv = .int .u64 f ∧ Hid (f = wv ^ i % (prm k : Nat)) ∧ FBlk wr g n (flyF (prm k : Nat) c at_ half i wv) T ∧ Chg (One g) w wr
theorem fly_any (k : Nat) (hk : k < 3) (g n at_ half : Nat) (c : Nat → Int) (wv : Int) (T : TypeId) (w : World) (hB : FBlk w g n c T) (hlen : at_ + half + half ≤ n) (hn : n ≤ 4096) (hc0 : ∀ q, q < n → 0 ≤ c q) (hw0 : 0 ≤ wv) :
  Calls Tryz.prog 202 #[.int .i64 (k : Nat), .slice (some ⟨g, at_, none⟩) half half, .slice (some ⟨g, at_ + half, none⟩) half half, .int .u64 wv] w fun e w' => (∃ v, e = .returned v) ∧ FBlk w' g n (flyF (prm k : Nat) c at_ half half wv) T ∧ Chg (One g) w w' := by
 have h1 := hid (resOf_any k hk 1 · (by decide))
 have hM := hid (fun (x y : Int) (hx : 0 ≤ x) (hy : 0 ≤ y) w => resMul_any k hk x y w hx hy)
 have hA := hid (fun (x y : Int) (hx : 0 ≤ x) (hy : 0 ≤ y) w => resAdd_any k hk x y w hx hy)
 have hS := hid (fun (x y : Int) (hx : 0 ≤ x) (hy : 0 ≤ y) w => resSub_any k hk x y w hx hy)
 have hp1 := mod_prm k 1
 have hBh := hid hB
 have hch := hid hc0
 clear hB hc0
 go_enter Tryz.func202, Tryz.ntmps202
 go_wp2_with fail
 refine (h1.out w).mono ?_
 rintro e w1 ⟨rfl, hc1⟩
 have hB1 := hid (hBh.out.chg hc1 id)
 have hC1 := hid hc1
 clear hc1
 go_wp2_with fail
 go_loopw [8, 16] (fun fv iv wr => FlyInv w k g n at_ half c wv T fv iv wr) (fun _ iv _ => half - (intOf iv).toNat)
 case atStart => exact ⟨0, _, Nat.zero_le _, rfl, rfl, hid (by rw [Int.pow_zero]), hB1.out.congr (fun q _ => (flyF_zero _ _ _ _ _ _).symm), hC1.out.mono (fun _ _ h => h.elim)⟩
 case round =>
  obtain ⟨i, f, hi, rfl, rfl, hf, hB, hchg⟩ := hrel
  rcases Nat.lt_or_ge i half with hih | hih
  ·have x0 := hB.cell (q := at_ + i) (by omega)
   have y0 := hB.cell (q := at_ + half + i) (by omega)
   rw [flyF_low _ _ _ _ _ _ hih] at x0
   rw [flyF_high _ _ _ _ _ _ hih] at y0
   have cx := hch.out (at_ + i) (by omega)
   have cy := hch.out (at_ + half + i) (by omega)
   have hgl := hB.lt
   have hf0 : 0 ≤ f := by rw [hf.out]; exact (mod_prm k _).1
   obtain ⟨y, hy⟩ : ∃ y, y = c (at_ + half + i) * f % ((prm k : Nat) : Int) := ⟨_, rfl⟩
   have hy0 : 0 ≤ y := by rw [hy]; exact (mod_prm k _).1
   have hm1 := hid (fun (n : Calm wr) => hy ▸ hM.out (c (at_ + half + i)) f cy hf0 n.val)
   have hfn := hid (show f * wv % ((prm k : Nat) : Int) = wv ^ (i + 1) % ((prm k : Nat) : Int) from by
    rw [hf.out]; refine Cg.emod_eq ?_
    rw [Int.pow_succ]; exact (Cg.emod _ _).mul (Cg.refl _ _))
   have hyh := hid hy
   have hBb := hid hB
   obtain ⟨x, hx⟩ : ∃ x, x = c (at_ + i) := ⟨_, rfl⟩
   rw [← hx] at x0 cx
   have hxh := hid hx
   obtain ⟨z, hz⟩ : ∃ z, z = c (at_ + half + i) := ⟨_, rfl⟩
   rw [← hz] at y0 hm1
   have hzh := hid hz
   replace x0 := Calm.cell hgl x0
   replace y0 := Calm.cell hgl y0
   have hi0 : (0 : Int) ≤ (i : Int) := by omega
   have hihI : (i : Int) < (half : Int) := by omega
   have hglh := hid hgl
   clear hB hy hx hz cy hgl
   go_wp2_with fail
   try simp only [List.append_eq, List.cons_append, List.nil_append]
   refine wp_region_calm_lit (by kernel_rfl) (by kernel_rfl) ?_
   repeat (go_big_quiet_step (((go_at_call 183; exact calm_of (hm1.out _)))))
   refine wpQuiet_nil ?_
   intro _ hw'
   obtain ⟨nq, hw''⟩ := hw'
   subst hw''
   have hBn := hid (hBb.out.chg nq.chg id)
   have hCn := hid (hchg.trans (nq.chg.mono (fun _ _ h => h.elim)))
   have hgn : g < nq.val.heap.size := Nat.lt_of_lt_of_le hglh.out nq.chg.size
   generalize nq.val = wn at hBn hCn hgn ⊢
   have ha := hid (hA.out x y cx hy0)
   have hs := hid (hS.out x y cx hy0)
   obtain ⟨va, hva⟩ : ∃ va, va = (x + y) % ((prm k : Nat) : Int) := ⟨_, rfl⟩
   obtain ⟨vs, hvs⟩ : ∃ vs, vs = (x - y) % ((prm k : Nat) : Int) := ⟨_, rfl⟩
   rw [← hva] at ha
   rw [← hvs] at hs
   replace hva := hid hva
   replace hvs := hid hvs
   clear hm1 x0 y0 hchg hp1
   go_wp2_with fail
   refine (ha.out _).mono ?_
   rintro e w2 ⟨rfl, hc2⟩
   have hB2 := hid (hBn.out.chg hc2 id)
   have hC2 := hid (hCn.out.trans (hc2.mono (fun _ _ h => h.elim)))
   clear hc2
   go_wp2_with fail
   refine (hs.out _).mono ?_
   rintro e w3 ⟨rfl, hc3⟩
   have hB3 := hB2.out.chg hc3 id
   have hC3 := hid (hC2.out.trans (hc3.mono (fun _ _ h => h.elim)))
   have x3 := hB3.cell (q := at_ + i) (by omega)
   have y3 := hB3.cell (q := at_ + half + i) (by omega)
   have f3 := hB3.free (at_ + i)
   have f4 := hB3.free (at_ + half + i)
   have hl3 := hB3.lt
   have hB4 := hid ((hB3.set (at_ + i) va).set (at_ + half + i) vs)
   have hC4 := hid ((hC3.out.setOne (at_ + i) (.int .u64 va)).setOne (at_ + half + i) (.int .u64 vs))
   clear hB3 hc3 hB2 hC2 hBn hCn hgn hglh
   go_wp2_with fail
   refine (hM.out f wv hf0 hw0 _).mono ?_
   rintro e w5 ⟨rfl, hc5⟩
   have hB5 := hid ((hB4.out.chg hc5 id).congr (f' := flyF (prm k : Nat) c at_ half (i + 1) wv) (fun q _ => by
    have := flyF_succ ((prm k : Nat) : Int) c at_ half i wv f hih hf.out q
    rw [← hxh.out, ← hzh.out] at this
    rw [← hzh.out] at hyh
    rw [← this, hva.out, hvs.out, hyh.out]))
   have hC5 := hid (hC4.out.trans (hc5.mono (fun _ _ h => h.elim)))
   clear hc5
   go_wp2
   go_roundw
   case rel => exact ⟨i + 1, _, hih, by go_num, rfl, hfn, hB5.out, hC5.out⟩
   case measure => simp [intOf]; omega
  ·obtain rfl : i = half := by omega
   have hd : decide ((i : Int) < (i : Int)) = false := decide_eq_false (by omega)
   go_wp2
   go_end0
   exact ⟨⟨_, rfl⟩, hB, hchg⟩
theorem infoU : (Tryz.prog.info? 82).map (fun i => (i.zero, i.size, i.bytes)) = some (some (.int .u64 0), 1, 8) := by kernel_rfl
theorem elemU : Tryz.prog.underlying 134 = some (.slice (Tryz.prog.elem 134)) := by kernel_rfl
theorem sizeU : ∀ w, (sizeOf (Tryz.prog.elem 134)).run Tryz.prog w = .ok 1 w := fun w => by kernel_rfl
theorem make_u64 (n : Nat) (hn : n ≤ 1000000000) (w : World) : (Instr.makeSlice 134 (.int .i64 (n : Int)) (.int .i64 (n : Int))).run Tryz.prog w = .ok (.slice (some ⟨w.heap.size, 0, none⟩) n n) (w.alloc (.cells (madeCells #[.int .u64 0] n) 82)) :=
 Go.run_make_row' _ _ (.int .u64 0) 8 Tryz.underlying134 infoU rfl .i64 .i64 n (by omega) (by omega) w
theorem FBlk.made (w : World) (n : Nat) (T : TypeId) : FBlk (w.alloc (.cells (madeCells #[.int .u64 0] n) T)) w.heap.size n (fun _ => 0) T := by
 have h := Blk.new w (madeCells #[.int .u64 0] n) T
 unfold FBlk
 rwa [show ((List.range n).map fun _ => Value.int .u64 0).toArray = madeCells #[.int .u64 0] n from by
  apply Array.ext'
  rw [toList_madeCells_one]
  simp [List.map_const']]
theorem wrapI_small {x : Int} (h0 : 0 ≤ x) (h : x ≤ 1000000) : IntKind.i64.wrap x = x := by
 simp [IntKind.wrap, IntKind.bits, IntKind.signed]; omega
theorem wrap_small (q : Nat) (h : q ≤ 4096) : IntKind.u64.wrap (wrap64 (q : Int)) = (q : Int) := by
 rw [show wrap64 (q : Int) = (q : Int) from by unfold wrap64; omega, IntKind.wrap_u64]
 exact Int.emod_eq_of_lt (by omega) (by omega)
def ordF (P : Int) (m : Nat) (l : Nat → Int) (i q : Nat) : Int := if rv m q < i then l (rv m q) % P else 0
theorem ordF_set (P : Int) (m : Nat) (l : Nat → Int) (i q : Nat) (hi : i < 2 ^ m) (hq : q < 2 ^ m) : (if q = rv m i then l i % P else ordF P m l i q) = ordF P m l (i + 1) q := by
 by_cases h : q = rv m i
 ·rw [if_pos h]
  unfold ordF
  rw [h, rv_rv m i hi, if_pos (Nat.lt_succ_self i)]
 ·rw [if_neg h]
  have hne : rv m q ≠ i := fun e => h (by rw [← e, rv_rv m q hq])
  unfold ordF
  by_cases h2 : rv m q < i
  ·rw [if_pos h2, if_pos (by omega)]
  ·rw [if_neg h2, if_neg (by omega)]
theorem ordF_all (P : Int) (m : Nat) (R : Int) (l : Nat → Int) (q : Nat) (hq : q < 2 ^ m) : ordF P m l (2 ^ m) q = stg P m R l 0 q := by
 unfold ordF; rw [if_pos (rv_lt m q), stg_zero]
def midF (P : Int) (m : Nat) (R : Int) (l : Nat → Int) (s at_ q : Nat) : Int := if q < at_ then stg P m R l (s + 1) q else stg P m R l s q
theorem midF_fly {P R : Int} {m s b : Nat} {l : Nat → Int} (hR : RootOf P m R) (hs : s < m) {wv : Int} (hw : Cg P wv (R ^ (2 ^ (m - s - 1)))) (q : Nat) :
  flyF P (midF P m R l s (b * 2 ^ (s + 1))) (b * 2 ^ (s + 1)) (2 ^ s) (2 ^ s) wv q = midF P m R l s ((b + 1) * 2 ^ (s + 1)) q := by
 have e2 : (b + 1) * 2 ^ (s + 1) = b * 2 ^ (s + 1) + 2 ^ s + 2 ^ s := by rw [Nat.pow_succ]; grind
 have key : ∀ x y f : Int, (x + y * f % P) % P = (x + y * f) % P ∧ (x - y * f % P) % P = (x - y * f) % P := fun x y f =>
  ⟨((Cg.refl P x).add (Cg.emod P _)).emod_eq, ((Cg.refl P x).sub (Cg.emod P _)).emod_eq⟩
 obtain ⟨at_, hat⟩ : ∃ at_, b * 2 ^ (s + 1) = at_ := ⟨_, rfl⟩
 obtain ⟨nx, hnx⟩ : ∃ nx, (b + 1) * 2 ^ (s + 1) = nx := ⟨_, rfl⟩
 rw [hat] at e2 ⊢
 rw [hnx] at e2 ⊢
 replace hat := hid hat
 replace hnx := hid hnx
 have hpos := Nat.two_pow_pos s
 unfold flyF
 by_cases h1 : at_ ≤ q ∧ q < at_ + 2 ^ s
 ·rw [if_pos h1]
  obtain ⟨j, rfl⟩ : ∃ j, q = at_ + j := ⟨q - at_, by omega⟩
  have hj : j < 2 ^ s := by omega
  rw [show at_ + j - at_ = j from by omega, (key _ _ _).1]
  unfold midF
  rw [if_neg (show ¬ at_ + j < at_ by omega), if_neg (show ¬ at_ + j + 2 ^ s < at_ by omega), if_pos (show at_ + j < nx by omega)]
  have := (stg_fly (l := l) (b := b) hR hs hj (f := wv ^ j % P) ((Cg.emod P _).trans (hw.pow j))).1
  rw [hat.out] at this
  rw [← this, show at_ + j + 2 ^ s = at_ + 2 ^ s + j from by omega]
 ·rw [if_neg h1]
  by_cases h2 : at_ + 2 ^ s ≤ q ∧ q < at_ + 2 ^ s + 2 ^ s
  ·rw [if_pos h2]
   obtain ⟨j, rfl⟩ : ∃ j, q = at_ + 2 ^ s + j := ⟨q - at_ - 2 ^ s, by omega⟩
   have hj : j < 2 ^ s := by omega
   rw [show at_ + 2 ^ s + j - at_ - 2 ^ s = j from by omega, show at_ + 2 ^ s + j - 2 ^ s = at_ + j from by omega, (key _ _ _).2]
   unfold midF
   rw [if_neg (show ¬ at_ + j < at_ by omega), if_neg (show ¬ at_ + 2 ^ s + j < at_ by omega), if_pos (show at_ + 2 ^ s + j < nx by omega)]
   have := (stg_fly (l := l) (b := b) hR hs hj (f := wv ^ j % P) ((Cg.emod P _).trans (hw.pow j))).2
   rw [hat.out] at this
   rw [← this]
  ·rw [if_neg h2]
   unfold midF
   by_cases h3 : q < at_
   ·rw [if_pos h3, if_pos (show q < nx by omega)]
   ·rw [if_neg h3, if_neg (show ¬ q < nx by omega)]
theorem run_three {P : Program} {t : TypeId} (ht : P.underlying t = some (.slice (P.elem t))) (hs : ∀ w, (sizeOf (P.elem t)).run P w = .ok 1 w) (g n c : Nat) (z y x : Int) (lo hi mx : Nat) (hz : z = lo) (hy : y = hi) (hx : x = mx) (h1 : lo ≤ hi) (h2 : hi ≤ mx) (h3 : mx ≤ c) (h4 : lo < mx) :
  ∀ W, (Instr.slice t (.slice (some ⟨g, 0, none⟩) n c) (some (.int .i64 z)) (some (.int .i64 y)) (some (.int .i64 x))).run P W = .ok (.slice (some ⟨g, lo, none⟩) (hi - lo) (mx - lo)) W := by
 intro W
 subst hz hy hx
 rw [run_slice_lhm (w := W) t _ n c ht .i64 .i64 .i64 (lo : Int) (hi : Int) (mx : Int) (by omega) (by omega) (by omega) (by omega), hs]
 simp [sliced, Result.andThen, Addr.add]
 rw [if_neg (by omega)]
 split
 ·rename_i h; rw [h]
 ·rfl
def TrA (w : World) (P : Int) (m n g : Nat) (l : Nat → Int) (iv : Value) (wr : World) : Prop := ∃ i : Nat, i ≤ n ∧ iv = .int .i64 i ∧ FBlk wr g n (ordF P m l i) 82 ∧ Chg Nothing w wr
def TrB (w : World) (P : Int) (m n g : Nat) (R : Int) (l : Nat → Int) (hv : Value) (wr : World) : Prop := ∃ (s h : Nat), s ≤ m ∧ hv = .int .i64 h ∧ Hid (h = 2 ^ s) ∧ FBlk wr g n (stg P m R l s) 82 ∧ Chg Nothing w wr
def TrC (w : World) (P : Int) (m n g : Nat) (R : Int) (l : Nat → Int) (s h : Nat) (av : Value) (wr : World) : Prop := ∃ (b a : Nat), b ≤ 2 ^ (m - s - 1) ∧ av = .int .i64 a ∧ Hid (a = b * 2 ^ (s + 1)) ∧ FBlk wr g n (midF P m R l s a) 82 ∧ Chg Nothing w wr
theorem transform_any (k m : Nat) (hk : k < 3) (hm : m ≤ 12) (F : Nat → Prop) (A : Option Addr) (n c : Nat) (l : List Int) (R : Int) (w : World) (HA : U64At F w A n c l) (hn : n = 2 ^ m) (hl0 : ∀ x ∈ l, 0 ≤ x) (hR : RootOf (prm k : Nat) m R) (hR0 : 0 ≤ R) :
    Calls Tryz.prog 194 #[.int .i64 (k : Nat), .slice A n c, .int .u64 R] w fun e w' => ∃ g, e = .returned (.slice (some ⟨g, 0, none⟩) n n) ∧ w.heap.size ≤ g ∧ FBlk w' g n (fun q => dftV n (fun i => l.getD i 0) R q % (prm k : Nat)) 82 ∧ Chg Nothing w w' := by
  have hlog : logS (n : Int) = some m := logS_some.2 ⟨hm, by rw [hn, Int.natCast_pow]; rfl⟩
  have hL := hid (fun w => nttLog_any (n : Int) w)
  rw [hlog] at hL
  have hn4 : n ≤ 4096 := by rw [hn, show 4096 = 2 ^ 12 from rfl]; exact Nat.pow_le_pow_right (by decide) hm
  have hn1 : 1 ≤ n := by rw [hn]; exact Nat.two_pow_pos m
  have hmk := make_u64 n (by omega)
  have hHA := hid (fun (w' : World) (hc : Chg Nothing w w') => HA.chg hc (fun _ _ _ h => h))
  have hln := HA.2.2.2.1
  have hnc := HA.2.1
  have hcx := HA.2.2.1
  have hlh := hid hl0
  have hOf := hid (fun (x : Int) (hx : 0 ≤ x) w => resOf_any k hk x w hx)
  have hPw := hid (fun (e : Nat) (he : e ≤ 4096) (w : World) => resPow_any k hk R e w hR0 (by omega))
  have hRh := hid hR
  have hnh := hid hn
  have hOrd := hid (fun (i : Nat) (hi : i < 4096) (w : World) => order_any i m hi hm w)
  clear HA hl0 hR hlog hn
  go_enter Tryz.func194, Tryz.ntmps194
  go_wp2_with fail
  refine (hL.out _).mono ?_
  rintro e w1 ⟨rfl, rfl⟩
  simp only [Option.getD_some, Option.isSome_some]
  have hF0 := hid (FBlk.made w1 n 82)
  have hC0 := hid ((Chg.refl Nothing w1).alloc (.cells (madeCells #[.int .u64 0] n) 82))
  go_wp2_with fail
  go_loopw [28] (fun iv wr => TrA w1 (prm k : Nat) m n w1.heap.size (fun i => l.getD i 0) iv wr) (fun iv _ => n - (intOf iv).toNat)
  case atStart => exact ⟨0, Nat.zero_le _, rfl, hF0.out.congr (fun q _ => by unfold ordF; rw [if_neg (by omega)]), hC0.out⟩
  case round =>
    obtain ⟨i, hi, rfl, hB, hchg⟩ := hrel
    rcases Nat.lt_or_ge i n with hin | hin
    · obtain ⟨ga, oa, rfl, -, hgla, ca⟩ := (hHA.out _ hchg).at_ hin
      have hx0 : 0 ≤ l.getD i 0 := hlh.out _ (by have : i < l.length := by omega
                                                 simp [this])
      have hBh := hid hB
      have hi0 : (0 : Int) ≤ (i : Int) := by omega
      have hinI : (i : Int) < (n : Int) := by omega
      have hrv : rv m i < n := by rw [hnh.out]; exact rv_lt m i
      have ho := hid (hOrd.out i (by omega))
      obtain ⟨rr, hrr⟩ : ∃ rr, rr = rv m i := ⟨_, rfl⟩
      rw [← hrr] at ho hrv
      replace hrr := hid hrr
      obtain ⟨x, hx⟩ : ∃ x, x = l.getD i 0 := ⟨_, rfl⟩
      rw [← hx] at ca hx0
      replace hx := hid hx
      have hof := hid (hOf.out x hx0)
      obtain ⟨v, hv⟩ : ∃ v, v = x % ((prm k : Nat) : Int) := ⟨_, rfl⟩
      rw [← hv] at hof
      replace hv := hid hv
      have hrI : (rr : Int) < (n : Int) := by omega
      have hr0 : (0 : Int) ≤ (rr : Int) := by omega
      clear hB
      go_wp2_with fail
      refine (ho.out _).mono ?_
      rintro e w2 ⟨rfl, rfl⟩
      go_wp2_with fail
      refine (hof.out _).mono ?_
      rintro e w3 ⟨rfl, hc3⟩
      have hB3 := hBh.out.chg hc3 id
      have y0 := hB3.cell (q := rr) hrv
      have f0 := hB3.free rr
      have hgl := hB3.lt
      have hB4 := hid ((hB3.set rr v).congr (f' := ordF (prm k : Nat) m (fun i => l.getD i 0) (i + 1)) (fun q hq => by
        rw [hv.out, hx.out, hrr.out]
        exact ordF_set (prm k : Nat) m (fun i => l.getD i 0) i q (by rw [← hnh.out]; exact hin) (by rw [← hnh.out]; exact hq)))
      have hC4 := hid ((hchg.trans hc3).setNew (g := w1.heap.size) (Nat.le_refl _) rr (.int .u64 v))
      clear hB3 hc3 ca hgla
      go_wp2
      go_roundw
      case rel => exact ⟨i + 1, hin, by go_num, hB4.out, hC4.out⟩
      case measure => simp [intOf]; omega
    · obtain rfl : i = n := by omega
      have hd : decide ((i : Int) < (i : Int)) = false := decide_eq_false (by omega)
      have hB0 := hid (hB.congr (f' := stg (prm k : Nat) m R (fun i => l.getD i 0) 0) (fun q hq => by rw [hnh.out]; exact ordF_all _ m R _ q (by rw [← hnh.out]; exact hq)))
      have hC1 := hid hchg
      clear hB hchg hF0 hC0 hd
      go_wp2_with fail
      go_loopw [13] (fun hv wr => TrB w1 (prm k : Nat) m i w1.heap.size R (fun i => l.getD i 0) hv wr) (fun hv _ => i - (intOf hv).toNat)
      case atStart => exact ⟨0, 1, Nat.zero_le _, rfl, hid rfl, hB0.out, hC1.out⟩
      case round =>
        obtain ⟨s, h, hs, rfl, hh, hB, hchg⟩ := hrel
        by_cases hsm : s < m
        · have hhn : h * 2 ≤ i := by
            rw [hh.out, hnh.out, ← Nat.pow_succ]; exact Nat.pow_le_pow_right (by decide) hsm
          have hh1 : 1 ≤ h := by rw [hh.out]; exact Nat.two_pow_pos s
          have hhi : (h : Int) < (i : Int) := by omega
          have hquo : i / (2 * h) = 2 ^ (m - s - 1) := by
            rw [hh.out, hnh.out, ← Nat.pow_succ', show m = (m - s - 1) + (s + 1) from by omega, Nat.pow_add, Nat.mul_div_cancel _ (Nat.two_pow_pos _)]
            congr 1; omega
          have hq0 : i / (2 * h) ≤ 4096 := Nat.le_trans (Nat.div_le_self _ _) hn4
          have hpw := hid (hPw.out (i / (2 * h)) hq0)
          obtain ⟨wv, hwv⟩ : ∃ wv, wv = R ^ (i / (2 * h)) % ((prm k : Nat) : Int) := ⟨_, rfl⟩
          rw [← hwv] at hpw
          have hw0 : 0 ≤ wv := by rw [hwv]; exact (mod_prm k _).1
          have hwc := hid (show Cg (prm k : Nat) wv (R ^ (2 ^ (m - s - 1))) from by rw [hwv, hquo]; exact Cg.emod _ _)
          replace hwv := hid hwv
          have hqI := hid (show (i : Int) / (2 * (h : Int)) = ((i / (2 * h) : Nat) : Int) from by norm_cast)
          replace hquo := hid hquo
          have hBs := hid hB
          have hCs := hid hchg
          have hh0 : (0 : Int) < 2 * (h : Int) := by omega
          have hh9 : (h : Int) ≤ 4096 := by omega
          have hi9 : (i : Int) ≤ 4096 := by omega
          clear hB hchg
          have hqw := hid (show IntKind.u64.wrap (wrap64 ((i : Int) / (2 * (h : Int)))) = ((i / (2 * h) : Nat) : Int) from by
            rw [hqI.out]
            exact wrap_small _ hq0)
          go_wp2_with fail
          rw [hqw.out]
          refine (hpw.out _).mono ?_
          rintro e w2 ⟨rfl, hc2⟩
          have hB2 := hid (hBs.out.chg hc2 id)
          have hC2 := hid (hCs.out.trans hc2)
          clear hc2 hqw hpw
          go_wp2
          go_loopw [15] (fun av wr2 => TrC w1 (prm k : Nat) m i w1.heap.size R (fun i => l.getD i 0) s h av wr2) (fun av _ => i - (intOf av).toNat)
          case atStart => exact ⟨0, 0, Nat.zero_le _, rfl, hid (by rw [Nat.zero_mul]), hB2.out.congr (fun q _ => by unfold midF; rw [if_neg (by omega)]), hC2.out⟩
          case round =>
            obtain ⟨b, a, hb, rfl, ha, hB, hchg⟩ := hrel
            have hnx : (b + 1) * 2 ^ (s + 1) = a + h + h := by rw [ha.out, hh.out, Nat.pow_succ]; grind
            by_cases hbm : b < 2 ^ (m - s - 1)
            · have hai : a + h + h ≤ i := by
                rw [← hnx, hnh.out]
                have h1 : (b + 1) * 2 ^ (s + 1) ≤ 2 ^ (m - s - 1) * 2 ^ (s + 1) := Nat.mul_le_mul_right _ hbm
                rw [← Nat.pow_add, show m - s - 1 + (s + 1) = m from by omega] at h1
                exact h1
              have haI : (a : Int) < (i : Int) := by omega
              have hs1 := run_three elemU sizeU w1.heap.size i i (a : Int) ((a : Int) + (h : Int)) ((a : Int) + (h : Int)) a (a + h) (a + h) rfl (by go_num) (by go_num) (by omega) (by omega) (by omega) (by omega)
              have hs2 := run_three elemU sizeU w1.heap.size i i ((a : Int) + (h : Int)) ((a : Int) + (h : Int) + (h : Int)) ((a : Int) + (h : Int) + (h : Int)) (a + h) (a + h + h) (a + h + h) (by go_num) (by go_num) (by go_num) (by omega) (by omega) (by omega) (by omega)
              rw [show a + h - a = h from by omega] at hs1
              rw [show a + h + h - (a + h) = h from by omega] at hs2
              have hfl := hid (fun (w' : World) (hB' : FBlk w' w1.heap.size i (midF (prm k : Nat) m R (fun i => l.getD i 0) s a) 82) => fly_any k hk w1.heap.size i a h _ wv 82 w' hB' hai hn4 (fun q _ => by unfold midF; split <;> exact (mod_prm k _).1) hw0)
              have hfn := hid (fun (w' : World) (hB' : FBlk w' w1.heap.size i (flyF (prm k : Nat) (midF (prm k : Nat) m R (fun i => l.getD i 0) s a) a h h wv) 82) => hB'.congr (f' := midF (prm k : Nat) m R (fun i => l.getD i 0) s (a + h + h)) (fun q _ => by
                have := midF_fly (l := fun i => l.getD i 0) (b := b) hRh.out hsm hwc.out q
                rw [hnx, ← ha.out, ← hh.out] at this
                exact this))
              have hnxh := hid hnx
              have hha : (0 : Int) ≤ (a : Int) := by omega
              have hah : (a : Int) + (h : Int) + (h : Int) ≤ (i : Int) := by omega
              have hBh := hid hB
              have hCh := hid hchg
              clear hB hchg hnx
              have hwx : IntKind.i64.wrap ((a : Int) + (h : Int) + (h : Int)) = (a : Int) + (h : Int) + (h : Int) := wrapI_small (by omega) (by omega)
              go_wp2_with fail
              go_region_law (go_simp; refine (hfl.out _ (hBh.out.chg ((Chg.refl Nothing wr).drew) id)).mono ?_; rintro e w5 ⟨⟨v, rfl⟩, hB5, hc5⟩)
              all_goals
                have hB6 := hid ((hfn.out _ hB5))
                have hC6 := hid (Chg.then hCh.out.drew hc5 (fun i hi e => absurd (show i = w1.heap.size from e) (by omega)))
                go_wp2
                go_roundw
                case rel => exact ⟨b + 1, a + h + h, hbm, by go_num, hid hnxh.out.symm, hB6.out, hC6.out⟩
                case measure => simp [intOf]; omega
            · have hb2 : b = 2 ^ (m - s - 1) := by omega
              have hai : a = i := by
                rw [ha.out, hb2, ← Nat.pow_add, hnh.out]; congr 1; omega
              subst hai
              have hd : decide ((a : Int) < (a : Int)) = false := decide_eq_false (by omega)
              have hB3 := hid (hB.congr (f' := stg (prm k : Nat) m R (fun i => l.getD i 0) (s + 1)) (fun q hq => by unfold midF; rw [if_pos hq]))
              have hCx := hid hchg
              have hh2 := hid (show h * 2 = 2 ^ (s + 1) from by rw [hh.out, Nat.pow_succ])
              clear hB hchg hnx hb2 hbm hb
              go_wp2
              go_roundw
              case rel => exact ⟨s + 1, h * 2, hsm, by go_num, hh2, hB3.out, hCx.out⟩
              case measure => simp [intOf]; omega
        · obtain rfl : s = m := by omega
          have hhn : h = i := by rw [hh.out, hnh.out]
          subst hhn
          have hd : decide ((h : Int) < (h : Int)) = false := decide_eq_false (by omega)
          have hfin := hid (hB.congr (f' := fun q => dftV h (fun i => l.getD i 0) R q % (prm k : Nat)) (fun q hq => by
            rw [stg_all _ _ _ _ _ (by rw [← hnh.out]; exact hq), ← hnh.out]))
          go_wp2
          go_ret
          exact ⟨_, rfl, Nat.le_refl _, hfin.out, hchg⟩
def invW (k m : Nat) : Int := rootW k m ^ (prm k - 2) % (prm k : Nat)
def manyW (k m : Nat) : Int := ((2 ^ m : Nat) : Int) ^ (prm k - 2) % (prm k : Nat)
theorem not_zero_mod {p x y : Int} (hp : 1 < p) (h : Cg p (x * y) 1) : x % p ≠ 0 := fun e => by
 have h1 : Cg p x 0 := Cg.of_emod (by rw [e]; simp)
 have h2 := ((h1.mul (Cg.refl p y)).symm.trans h)
 have h3 := h2.emod_eq
 rw [Int.zero_mul, Int.zero_emod, Int.emod_eq_of_lt (by omega) hp] at h3
 omega
theorem rootW_nonneg (k m : Nat) : 0 ≤ rootW k m := (mod_prm k _).1
theorem inv_root (k m : Nat) (hk : k < 3) (hm : m ≤ 12) : RootOf (prm k : Nat) m (invW k m) := by
 have h := rootW_root k m hk hm
 have hi := rootW_inv k m hk hm
 have key : ∀ n : Nat, Cg (prm k : Nat) (rootW k m ^ n * invW k m ^ n) 1 := fun n => by
  have := hi.pow n
  rw [Int.mul_pow, one_pow'] at this
  exact this
 refine ⟨?_, ?_⟩
 ·have h1 := (h.1.mul (Cg.refl _ (invW k m ^ (2 ^ m)))).symm.trans (key _)
  rwa [Int.one_mul] at h1
 ·rcases h.2 with h2 | h2
  ·exact .inl h2
  ·refine .inr ?_
   have h1 := ((h2.mul (Cg.refl _ (invW k m ^ (2 ^ (m - 1))))).symm.trans (key _)).neg
   rwa [show -(-1 * invW k m ^ (2 ^ (m - 1))) = invW k m ^ (2 ^ (m - 1)) from by grind] at h1
theorem nttCheck_yes (k m : Nat) (hk : k < 3) (hm : m ≤ 12) (n : Nat) (hn : n = 2 ^ m) (w : World) : Calls Tryz.prog 192 #[.int .i64 (k : Nat), .int .i64 (n : Nat)] w fun e w' => e = .returned (.int .i64 0) ∧ Chg Nothing w w' := by
 have hlog : logS (n : Int) = some m := logS_some.2 ⟨hm, by rw [hn, Int.natCast_pow]; rfl⟩
 have hL := hid (fun w => nttLog_any (n : Int) w)
 rw [hlog] at hL
 have hP := hid (resPrime_any k hk)
 have hb : (((prm k : Nat) : Int) == 0) = false := beq_eq_false_iff_ne.2 (by have := prm_pos k; omega)
 clear hlog hn
 go_enter Tryz.func192, Tryz.ntmps192
 go_wp2_with fail
 refine (hP.out _).mono ?_
 rintro e w1 ⟨rfl, hc1⟩
 have hC1 := hid hc1
 clear hc1
 generalize ((prm k : Nat) : Int) = P at hb ⊢
 go_wp2_with fail
 refine (hL.out _).mono ?_
 rintro e w2 ⟨rfl, rfl⟩
 simp only [Option.getD_some, Option.isSome_some]
 go_wp2
 go_ret
 exact ⟨rfl, hC1.out⟩
theorem nttForward_any (k m : Nat) (hk : k < 3) (hm : m ≤ 12) (F : Nat → Prop) (A : Option Addr) (n c : Nat) (l : List Int) (w : World) (HA : U64At F w A n c l) (hF : ∀ j, F j → j < w.heap.size) (hn : n = 2 ^ m) (hl0 : ∀ x ∈ l, 0 ≤ x) :
  Calls Tryz.prog 179 #[.int .i64 (k : Nat), .slice A n c] w fun e w' => ∃ g, e = .returned (.tuple #[.slice (some ⟨g, 0, none⟩) n n, .int .i64 0]) ∧ w.heap.size ≤ g ∧ FBlk w' g n (fun q => dftV n (fun i => l.getD i 0) (rootW k m) q % (prm k : Nat)) 82 ∧ Chg Nothing w w' := by
 have hlog : logS (n : Int) = some m := logS_some.2 ⟨hm, by rw [hn, Int.natCast_pow]; rfl⟩
 have hL := hid (fun w => nttLog_any (n : Int) w)
 rw [hlog] at hL
 have hCk := hid (fun w => nttCheck_yes k m hk hm n hn w)
 have hRt := hid (fun w => resRoot_any k m hk hm w)
 have hTr := hid (fun (w' : World) (hc : Chg Nothing w w') => transform_any k m hk hm F A n c l (rootW k m) w' (HA.chg hc (fun _ _ _ h => h)) hn hl0 (rootW_root k m hk hm) (rootW_nonneg k m))
 clear hlog hn HA
 go_enter Tryz.func179, Tryz.ntmps179
 go_wp2_with fail
 refine (hCk.out _).mono ?_
 rintro e w1 ⟨rfl, hc1⟩
 have hC1 := hid hc1
 clear hc1
 go_wp2_with fail
 refine (hL.out _).mono ?_
 rintro e w2 ⟨rfl, rfl⟩
 simp only [Option.getD_some, Option.isSome_some]
 go_wp2_with fail
 refine (hRt.out _).mono ?_
 rintro e w3 ⟨rfl, hc3⟩
 have hC3 := hid (hC1.out.trans hc3)
 clear hc3
 go_wp2_with fail
 refine (hTr.out _ hC3.out).mono ?_
 rintro e w4 ⟨g, rfl, hg, hB, hc4⟩
 have hC4 := hid (hC3.out.trans hc4)
 have hgw := hid (Nat.le_trans hC3.out.size hg)
 have hBh := hid hB
 clear hc4 hg hB
 go_wp2
 go_ret2
 exact ⟨_, rfl, hgw.out, hBh.out, hC4.out⟩
def InvL (w : World) (P N : Int) (f : Nat → Int) (n g : Nat) (iv : Value) (wr : World) : Prop := ∃ i : Nat, i ≤ n ∧ iv = .int .i64 i ∧ FBlk wr g n (fun q => if q < i then f q * N % P else f q) 82 ∧ Chg Nothing w wr
theorem nttInverse_any (k m : Nat) (hk : k < 3) (hm : m ≤ 12) (F : Nat → Prop) (A : Option Addr) (n c : Nat) (l : List Int) (w : World) (HA : U64At F w A n c l) (hF : ∀ j, F j → j < w.heap.size) (hn : n = 2 ^ m) (hl0 : ∀ x ∈ l, 0 ≤ x) :
  Calls Tryz.prog 184 #[.int .i64 (k : Nat), .slice A n c] w fun e w' => ∃ g, e = .returned (.tuple #[.slice (some ⟨g, 0, none⟩) n n, .int .i64 0]) ∧ w.heap.size ≤ g ∧ FBlk w' g n (fun q => dftV n (fun i => l.getD i 0) (invW k m) q % (prm k : Nat) * manyW k m % (prm k : Nat)) 82 ∧ Chg Nothing w w' := by
 have hlog : logS (n : Int) = some m := logS_some.2 ⟨hm, by rw [hn, Int.natCast_pow]; rfl⟩
 have hL := hid (fun w => nttLog_any (n : Int) w)
 rw [hlog] at hL
 have hn4 : n ≤ 4096 := by rw [hn, show 4096 = 2 ^ 12 from rfl]; exact Nat.pow_le_pow_right (by decide) hm
 have hp1 : (1 : Int) < ((prm k : Nat) : Int) := by have := prm_pos k; omega
 have hCk := hid (fun w => nttCheck_yes k m hk hm n hn w)
 have hRt := hid (fun w => resRoot_any k m hk hm w)
 have hI1 := hid (fun w => resInv_any k hk (rootW k m) w (rootW_nonneg k m) (not_zero_mod hp1 (rootW_inv k m hk hm)))
 have hI2 := hid (fun w => resInv_any k hk ((n : Nat) : Int) w (by omega) (by rw [hn]; exact not_zero_mod hp1 (two_inv k m hk)))
 have hTr := hid (fun (w' : World) (hc : Chg Nothing w w') => transform_any k m hk hm F A n c l (invW k m) w' (HA.chg hc (fun _ _ _ h => h)) hn hl0 (inv_root k m hk hm) (mod_prm k _).1)
 have hN : ((n : Nat) : Int) ^ (prm k - 2) % (prm k : Nat) = manyW k m := by rw [hn]; rfl
 rw [hN] at hI2
 have hN0 : 0 ≤ manyW k m := (mod_prm k _).1
 have hI3 : rootW k m ^ (prm k - 2) % (prm k : Nat) = invW k m := rfl
 rw [hI3] at hI1
 have hM := hid (fun (x y : Int) (hx : 0 ≤ x) (hy : 0 ≤ y) w => resMul_any k hk x y w hx hy)
 have hf0 := hid (fun q => (mod_prm k (dftV n (fun i => l.getD i 0) (invW k m) q)).1)
 have hnw := hid (show IntKind.u64.wrap ((n : Nat) : Int) = ((n : Nat) : Int) from by rw [IntKind.wrap_u64]; exact Int.emod_eq_of_lt (by omega) (by omega))
 generalize manyW k m = N at hI2 hN0 ⊢
 generalize hfd : (fun q => dftV n (fun i => l.getD i 0) (invW k m) q % ((prm k : Nat) : Int)) = f at hTr hf0 ⊢
 have hfq : ∀ q, dftV n (fun i => l.getD i 0) (invW k m) q % ((prm k : Nat) : Int) = f q := fun q => by rw [← hfd]
 simp only [hfq] at hTr hf0 ⊢
 clear hlog hn HA hN hI3 hfd hfq
 go_enter Tryz.func184, Tryz.ntmps184
 go_wp2_with fail
 refine (hCk.out _).mono ?_
 rintro e w1 ⟨rfl, hc1⟩
 have hC1 := hid hc1
 clear hc1
 go_wp2_with fail
 refine (hL.out _).mono ?_
 rintro e w2 ⟨rfl, rfl⟩
 simp only [Option.getD_some, Option.isSome_some]
 go_wp2_with fail
 refine (hRt.out _).mono ?_
 rintro e w3 ⟨rfl, hc3⟩
 have hC3 := hid (hC1.out.trans hc3)
 clear hc3
 go_wp2_with fail
 refine (hI1.out _).mono ?_
 rintro e w4 ⟨rfl, hc4⟩
 have hC4 := hid (hC3.out.trans hc4)
 clear hc4
 go_wp2_with fail
 refine (hI2.out _).mono ?_
 rintro e w5 ⟨rfl, hc5⟩
 have hC5 := hid (hC4.out.trans hc5)
 clear hc5
 go_wp2_with fail
 refine (hTr.out _ hC5.out).mono ?_
 rintro e w6 ⟨g, rfl, hg, hB, hc6⟩
 have hC6 := hid (hC5.out.trans hc6)
 have hgw := hid (Nat.le_trans hC5.out.size hg)
 have hBh := hid hB
 clear hc6 hg hB hC1 hC3 hC4 hC5 hI1 hI2 hTr hL hRt hCk hnw
 go_wp2_with fail
 go_loopw [56] (fun iv wr => InvL w (prm k : Nat) N f n g iv wr) (fun iv _ => n - (intOf iv).toNat)
 case atStart => exact ⟨0, Nat.zero_le _, rfl, hBh.out.congr (fun q _ => by rw [if_neg (by omega)]), hC6.out⟩
 case round =>
  obtain ⟨i, hi, rfl, hB, hchg⟩ := hrel
  rcases Nat.lt_or_ge i n with hin | hin
  ·have x0 := hB.cell (q := i) hin
   simp only [Nat.lt_irrefl, if_false] at x0
   have hi0 : (0 : Int) ≤ (i : Int) := by omega
   have hinI : (i : Int) < (n : Int) := by omega
   have hgl := hB.lt
   have hB0 := hid hB
   have hCr := hid hchg
   have hx0 := hf0.out i
   obtain ⟨x, hx⟩ : ∃ x, x = f i := ⟨_, rfl⟩
   rw [← hx] at x0 hx0
   have hm1 := hid (fun w => hM.out x N hx0 hN0 w)
   obtain ⟨y, hy⟩ : ∃ y, y = x * N % ((prm k : Nat) : Int) := ⟨_, rfl⟩
   rw [← hy] at hm1
   replace hx := hid hx
   replace hy := hid hy
   clear hB hchg
   go_wp2_with fail
   refine (hm1.out _).mono ?_
   rintro e w7 ⟨rfl, hc7⟩
   have hB7 := hB0.out.chg hc7 id
   have y0 := hB7.cell (q := i) hin
   have f0 := hB7.free i
   have hg7 := hB7.lt
   have hB8 := hid ((hB7.set i y).congr (f' := fun q => if q < i + 1 then f q * N % ((prm k : Nat) : Int) else f q) (fun q _ => by
    by_cases h1 : q = i
    ·subst h1; rw [if_pos rfl, if_pos (by omega), hy.out, hx.out]
    ·rw [if_neg h1]
     by_cases h2 : q < i
     ·rw [if_pos h2, if_pos (by omega)]
     ·rw [if_neg h2, if_neg (by omega)]))
   have hC8 := hid ((hCr.out.trans hc7).setNew hgw.out i (.int .u64 y))
   clear hB7 hc7
   go_wp2
   go_roundw
   case rel => exact ⟨i + 1, hin, by go_num, hB8.out, hC8.out⟩
   case measure => simp [intOf]; omega
  ·obtain rfl : i = n := by omega
   have hd : decide ((i : Int) < (i : Int)) = false := decide_eq_false (by omega)
   have hfin := hid (hB.congr (f' := fun q => f q * N % ((prm k : Nat) : Int)) (fun q hq => by rw [if_pos hq]))
   have hCf := hid hchg
   clear hB hchg
   go_wp2
   go_ret2
   exact ⟨_, rfl, hgw.out, hfin.out, hCf.out⟩
theorem row_plain (k M m q : Nat) (hk : k < 3) (hM : M ≤ 12) (hm1 : 1 ≤ m) (p t : Nat → Int) (hp : ∀ j, m ≤ j → p j = 0) (hq : q + m ≤ 2 ^ M) :
  dftV (2 ^ M) (fun i => (dftV (2 ^ M) t (rootW k M) i % (prm k : Nat)) * (dftV (2 ^ M) (fun l => p ((2 ^ M - l) % 2 ^ M)) (rootW k M) i % (prm k : Nat)) % (prm k : Nat)) (invW k M) q % (prm k : Nat) * manyW k M % (prm k : Nat)
   = sumN m (fun u => p u * t (q + u)) % (prm k : Nat) := by
 have h := conv_cyc (p := (prm k : Nat)) (x := rootW k M) (y := invW k M) (N := manyW k M) (m := M) (rootW_root k M hk hM) (rootW_inv k M hk hM) (by have := two_inv k M hk; rwa [Int.mul_comm] at this) t (fun l => p ((2 ^ M - l) % 2 ^ M))
  (fun i => (dftV (2 ^ M) t (rootW k M) i % (prm k : Nat)) * (dftV (2 ^ M) (fun l => p ((2 ^ M - l) % 2 ^ M)) (rootW k M) i % (prm k : Nat)) % (prm k : Nat))
  (fun j _ => (Cg.emod _ _).trans ((Cg.emod _ _).mul (Cg.emod _ _))) q (by omega)
 rw [cyc_slide (2 ^ M) m q t p hm1 (by omega) hq hp] at h
 exact (((Cg.emod _ _).mul (Cg.refl _ _)).trans h).emod_eq
def slideN (m : Nat) (p t : Nat → Int) (i : Nat) : Int := sumN m (fun u => p u * t (i + u))
theorem slide_bounds (m : Nat) (p t : Nat → Int) (x y : Int) (hp : ∀ j, 0 ≤ p j ∧ p j ≤ x) (ht : ∀ j, 0 ≤ t j ∧ t j ≤ y) (hb : x * y * m ≤ 18446744073709551615) (i : Nat) : 0 ≤ slideN m p t i ∧ slideN m p t i < 18446744073709551616 := by
 unfold slideN
 refine ⟨sumN_nonneg _ _ fun u _ => Int.mul_nonneg (hp u).1 (ht _).1, ?_⟩
 have h := sumN_le m (fun u => p u * t (i + u)) (x * y) (fun u _ => Int.mul_le_mul (hp u).2 (ht _).2 (ht _).1 (Int.le_trans (hp u).1 (hp u).2))
 rw [Int.mul_comm] at hb
 omega
end Go.Proofs.YtoelilejohfglaaGreat
