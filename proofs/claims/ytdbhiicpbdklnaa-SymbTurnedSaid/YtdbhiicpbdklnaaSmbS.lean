/- Layer 11: a leaf and a text the other way round: the plain law. No program. -/
import Derived.Test.YtdbhiicpbdklnaaSmbP
namespace Go.Proofs.Ytdbhiicpbdklnaa
open Go.RowKit
set_option linter.unusedVariables false
theorem sumN_rev (f : Nat → Int) (n : Nat) : sumN n f = sumN n (fun j => f (n - 1 - j)) := by
  induction n generalizing f with
  | zero => rfl
  | succ n ih =>
    have e1 : sumN (n + 1) f = f 0 + sumN n (fun i => f (1 + i)) := by
      rw [show n + 1 = 1 + n from by omega, sumN_split 1 n f]
      show (0 + f 0) + _ = _
      omega
    have e2 : sumN (n + 1) (fun j => f (n + 1 - 1 - j)) = sumN n (fun j => f (n + 1 - 1 - j)) + f (n + 1 - 1 - n) := rfl
    have h : sumN n (fun j => f (1 + (n - 1 - j))) = sumN n (fun j => f (n + 1 - 1 - j)) := sumN_congr fun j hj => by rw [show 1 + (n - 1 - j) = n + 1 - 1 - j from by omega]
    rw [e1, e2, ih (fun i => f (1 + i)), h, show n + 1 - 1 - n = 0 from by omega]
    omega
theorem rev_getD (xs : List Cls) (j : Nat) (h : j < xs.length) : xs.reverse.getD j 0 = xs.getD (xs.length - 1 - j) 0 := by
  simp only [List.getD_eq_getElem?_getD]
  rw [List.getElem?_reverse h]
theorem missN_rev (xs : List Cls) (s t : ByteArray) (ht : t.size = s.size) (hb : ∀ i, i < s.size → t.data[i]?.getD 0 = s.data[s.size - 1 - i]?.getD 0) (i : Nat) (hi : i < s.size + 1 - xs.length) : missN xs.reverse t i = missN xs s (s.size + 1 - xs.length - 1 - i) := by
  unfold missN
  rw [List.length_reverse, sumN_rev]
  refine sumN_congr fun j hj => ?_
  rw [rev_getD xs _ (by omega), hb _ (by omega), show xs.length - 1 - (xs.length - 1 - j) = j from by omega, show s.size - 1 - (i + (xs.length - 1 - j)) = s.size + 1 - xs.length - 1 - i + j from by omega]
theorem countsL_rev (xs : List Cls) (s t : ByteArray) (ht : t.size = s.size) (hb : ∀ i, i < s.size → t.data[i]?.getD 0 = s.data[s.size - 1 - i]?.getD 0) : countsL xs.reverse t = (countsL xs s).reverse := by
  unfold countsL
  rw [List.length_reverse, ht]
  apply List.ext_getElem
  · simp
  · intro i h1 h2
    simp at h1
    rw [List.getElem_reverse]
    simp only [List.getElem_map, List.getElem_range, List.length_map, List.length_range]
    exact missN_rev xs s t ht hb i h1
theorem kindsL_rev (xs : List Cls) : (kindsL xs.reverse).length = (kindsL xs).length := by
  have h1 := kindsTo_nodup xs xs.length
  have h2 := kindsTo_nodup xs.reverse xs.reverse.length
  have hp : (fullC :: kindsL xs.reverse).Perm (fullC :: kindsL xs) := (List.perm_ext_iff_of_nodup h2 h1).2 fun x => by
    rw [kindsTo_mem, kindsTo_mem, List.length_reverse]
    constructor
    · rintro (h | ⟨j, hj, e⟩)
      · exact .inl h
      · exact .inr ⟨xs.length - 1 - j, by omega, by rw [← rev_getD xs j hj]; exact e⟩
    · rintro (h | ⟨j, hj, e⟩)
      · exact .inl h
      · exact .inr ⟨xs.length - 1 - j, by omega, by rw [rev_getD xs _ (by omega), show xs.length - 1 - (xs.length - 1 - j) = j from by omega]; exact e⟩
  have := hp.length_eq
  simpa using this
theorem rightB_rev (xs : List Cls) (K : Int) : rightB xs.reverse K = rightB xs K := by unfold rightB; simp
theorem amiss_rev (xs : List Cls) (K n size : Int) : amiss xs.reverse K n size = amiss xs K n size := by unfold amiss; rw [rightB_rev, List.length_reverse]
theorem symY_rev (xs : List Cls) (K : Int) (s t : ByteArray) (size : Int) (ht : t.size = s.size) (hb : ∀ i, i < s.size → t.data[i]?.getD 0 = s.data[s.size - 1 - i]?.getD 0) : symY xs.reverse K t size = (symY xs K s size).reverse := by
  unfold symY
  rw [amiss_rev, ht]
  split
  · exact countsL_rev xs s t ht hb
  · rfl
theorem symN_rev (xs : List Cls) (K : Int) (s t : ByteArray) (size : Int) (ht : t.size = s.size) : symN xs.reverse K t size = symN xs K s size := by
  unfold symN
  rw [amiss_rev, ht, kindsL_rev, List.length_reverse]
/-- A text's bytes, the other way round, as numbers. -/
def revB (s : ByteArray) : List Int := (List.range s.size).map fun i => (((s.data[s.size - 1 - i]?.getD 0).toNat : Nat) : Int)
theorem revB_len (s : ByteArray) : (revB s).length = s.size := by unfold revB; simp
theorem revB_getD (s : ByteArray) (i : Nat) (hi : i < s.size) : (revB s).getD i 0 = (((s.data[s.size - 1 - i]?.getD 0).toNat : Nat) : Int) := by unfold revB; simp [hi]
theorem revB_take (s : ByteArray) (k : Nat) (hk : k < s.size) : (revB s).take (k + 1) = (revB s).take k ++ [(((s.data[s.size - 1 - k]?.getD 0).toNat : Nat) : Int)] := by
  rw [List.take_succ_eq_append_getElem (by rw [revB_len]; exact hk)]
  congr 2
  unfold revB; simp
theorem rev_take (xs : List Cls) (k : Nat) (hk : k < xs.length) : xs.reverse.take (k + 1) = xs.reverse.take k ++ [xs.getD (xs.length - 1 - k) 0] := by
  rw [List.take_succ_eq_append_getElem (by simpa using hk)]
  congr 2
  rw [List.getElem_reverse]
  simp [show xs.length - 1 - k < xs.length from by omega]
end Go.Proofs.Ytdbhiicpbdklnaa
