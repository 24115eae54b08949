/- Layer 13: the document's item. -/
import Derived.Test.YtpndjehiacmngaaTokP
namespace Go.Proofs.Ytpndjehiacmngaa
open Go.RowKit
set_option linter.unusedVariables false
def itemSet : ByteArray := ⟨#[34, 91, 93, 45, 94]⟩
theorem inside_item' : ∀ b : Fin 256, b.val ≠ 92 → inS insideSet b.val = inS itemSet b.val := by decide +kernel
theorem inside_item (b : Nat) (h : b < 256) (h9 : b ≠ 92) : inS insideSet b = inS itemSet b := inside_item' ⟨b, h⟩ h9
set_option maxHeartbeats 1000000 in
theorem refItem_any (s : ByteArray) (a : Nat) (w : World) (hs : s.size ≤ 9223372036854775000) (ha : a ≤ s.size) :
    Calls Try.prog 66 #[.string s, .int .i64 a] w fun e w' => e = .returned (gotOf (itemS s a)) ∧ Chg Nothing w w' := by
  by_cases h : a < s.size
  · have hlt1 := byteAt_lt s a
    have hg0 := byteAt_eq h
    by_cases h92 : byteAt s a = 92
    · have hd : (((byteAt s a : Nat) : Int) == 92) = true := beq_iff_eq.2 (by omega)
      have hE := hid (show itemS s a = escS s a from by unfold itemS oneS; rw [if_pos h, if_pos h92])
      replace h92 := hid h92
      rw [hE.out]
      go_enter Try.func66, Try.ntmps66
      go_wp2_with fail
      refine (refEscape_any' s a _ hs h).mono ?_
      rintro e w' ⟨rfl, hc⟩
      obtain ⟨q1, q2⟩ := hc.cells
      have hz := hc.size
      rw [World.size_alloc] at hz
      go_wp2
      refine bodyPost_ret (v := gotOf (escS s a)) (by simp [results, Try.results66, go_sem, gotOf, gotB, q1]) rfl ⟨rfl, ?_⟩
      have hC := ((Chg.refl Nothing w).alloc _).trans hc
      repeat (first | with_reducible exact hC | with_reducible refine Chg.setNew ?_ (Nat.le_refl _) _ _)
    · have hd : (((byteAt s a : Nat) : Int) == 92) = false := by rw [beq_eq_false_iff_ne]; omega
      have hin := inside_item (byteAt s a) hlt1 h92
      by_cases hsg : signB (byteAt s a) = true
      · cases hi : inS itemSet (byteAt s a) with
        | true =>
          have hE := hid (show itemS s a = .bad a 132 from by unfold itemS oneS; rw [if_pos h, if_neg h92, if_neg (by rw [hin, hi]; simp)])
          replace hi := hid hi
          clear hin h92
          rw [hE.out]
          go_enter Try.func66, Try.ntmps66
          go_wp2_with fail
          refine (refSign_any (byteAt s a) _ (by omega)).mono ?_
          rintro e w' ⟨rfl, rfl⟩
          go_wp2_with fail
          refine (refIn_any itemSet (byteAt s a) _ (by omega) (by decide)).mono ?_
          rintro e w' ⟨rfl, rfl⟩
          rw [hi.out]
          go_wp2
          refine bodyPost_ret (v := gotB 0 a 132) (by simp [results, Try.results66, go_sem, gotB]) rfl ⟨rfl, (Chg.refl _ _).alloc _⟩
        | false =>
          have hE := hid (show itemS s a = .ok (byteAt s a) (a + 1) from by unfold itemS oneS; rw [if_pos h, if_neg h92, if_pos ⟨hsg, hin.trans hi⟩])
          replace hi := hid hi
          clear hin h92
          rw [hE.out]
          go_enter Try.func66, Try.ntmps66
          go_wp2_with fail
          refine (refSign_any (byteAt s a) _ (by omega)).mono ?_
          rintro e w' ⟨rfl, rfl⟩
          go_wp2_with fail
          refine (refIn_any itemSet (byteAt s a) _ (by omega) (by decide)).mono ?_
          rintro e w' ⟨rfl, rfl⟩
          rw [hi.out]
          go_wp2
          refine bodyPost_ret (v := gotB (byteAt s a) (a + 1) 0) (by simp [results, Try.results66, go_sem, gotB]) rfl ⟨rfl, (Chg.refl _ _).alloc _⟩
      · have hE := hid (show itemS s a = .bad a 132 from by unfold itemS oneS; rw [if_pos h, if_neg h92, if_neg (fun h => hsg h.1)])
        have hsg' : signB (byteAt s a) = false := by simpa using hsg
        clear h92 hsg hin
        rw [hE.out]
        go_enter Try.func66, Try.ntmps66
        go_wp2_with fail
        refine (refSign_any (byteAt s a) _ (by omega)).mono ?_
        rintro e w' ⟨rfl, rfl⟩
        go_wp2
        refine bodyPost_ret (v := gotB 0 a 132) (by simp [results, Try.results66, go_sem, gotB]) rfl ⟨rfl, (Chg.refl _ _).alloc _⟩
  · have hE := hid (show itemS s a = .bad s.size 133 from by unfold itemS; rw [if_neg h])
    rw [hE.out]
    go_enter Try.func66, Try.ntmps66
    go_wp2
    refine bodyPost_ret (v := gotB 0 s.size 133) (by simp [results, Try.results66, go_sem, gotB]) rfl ⟨rfl, (Chg.refl _ _).alloc _⟩
theorem refItem_ok {s : ByteArray} {a v b : Nat} (h : itemS s a = .ok v b) (w : World) (hs : s.size ≤ 9223372036854775000) (ha : a ≤ s.size) :
    Calls Try.prog 66 #[.string s, .int .i64 a] w fun e w' => e = .returned (.agg #[.int .u8 v, .int .u64 0, .int .u64 0, .int .u64 0, .int .u64 0, .slice none 0 0, .int .i64 0, .int .i64 b, .int .i64 0]) ∧ Chg Nothing w w' := by
  have := refItem_any s a w hs ha
  rw [h] at this; exact this
theorem refItem_bad {s : ByteArray} {a p : Nat} {e : Int} (h : itemS s a = .bad p e) (w : World) (hs : s.size ≤ 9223372036854775000) (ha : a ≤ s.size) :
    Calls Try.prog 66 #[.string s, .int .i64 a] w fun e' w' => e' = .returned (.agg #[.int .u8 0, .int .u64 0, .int .u64 0, .int .u64 0, .int .u64 0, .slice none 0 0, .int .i64 0, .int .i64 p, .int .i64 e]) ∧ Chg Nothing w w' := by
  have := refItem_any s a w hs ha
  rw [h] at this; exact this
/-! The contracts of classes, their answers laid open. -/
theorem refNotL (x : Cls) (w : World) : Calls Try.prog 68 #[.agg #[.int .u64 (wd x 0), .int .u64 (wd x 1), .int .u64 (wd x 2), .int .u64 (wd x 3)]] w fun e w' => e = .returned (.agg #[.int .u64 (wd (~~~ x) 0), .int .u64 (wd (~~~ x) 1), .int .u64 (wd (~~~ x) 2), .int .u64 (wd (~~~ x) 3)]) ∧ Chg Nothing w w' := refNot_any x w
theorem refOrL (x y : Cls) (w : World) : Calls Try.prog 67 #[.agg #[.int .u64 (wd x 0), .int .u64 (wd x 1), .int .u64 (wd x 2), .int .u64 (wd x 3)], .agg #[.int .u64 (wd y 0), .int .u64 (wd y 1), .int .u64 (wd y 2), .int .u64 (wd y 3)]] w fun e w' => e = .returned (.agg #[.int .u64 (wd (x ||| y) 0), .int .u64 (wd (x ||| y) 1), .int .u64 (wd (x ||| y) 2), .int .u64 (wd (x ||| y) 3)]) ∧ Chg Nothing w w' := refOr_any x y w
theorem refRangeL (a b : Nat) (w : World) (ha : (a : Int) ≤ 255) (hb : (b : Int) ≤ 255) : Calls Try.prog 65 #[.int .u8 a, .int .u8 b] w fun e w' => e = .returned (.agg #[.int .u64 (wd (rangeC a b) 0), .int .u64 (wd (rangeC a b) 1), .int .u64 (wd (rangeC a b) 2), .int .u64 (wd (rangeC a b) 3)]) ∧ Chg Nothing w w' := refRange_any a b w ha hb
theorem refFullL (w : World) : Calls Try.prog 62 #[] w fun e w' => e = .returned (.agg #[.int .u64 (wd fullC 0), .int .u64 (wd fullC 1), .int .u64 (wd fullC 2), .int .u64 (wd fullC 3)]) ∧ Chg Nothing w w' := refFull_any w
theorem refSizeL (x : Cls) (w : World) : Calls Try.prog 28 #[.agg #[.int .u64 (wd x 0), .int .u64 (wd x 1), .int .u64 (wd x 2), .int .u64 (wd x 3)]] w fun e w' => e = .returned (.int .i64 (sizeC x)) ∧ Chg Nothing w w' := refSize_any x w
theorem classNotL (x : Cls) (w : World) : Calls Try.prog 43 #[.agg #[.int .u64 (wd x 0), .int .u64 (wd x 1), .int .u64 (wd x 2), .int .u64 (wd x 3)]] w fun e w' => e = .returned (.agg #[.int .u64 (wd (~~~ x) 0), .int .u64 (wd (~~~ x) 1), .int .u64 (wd (~~~ x) 2), .int .u64 (wd (~~~ x) 3)]) ∧ Chg Nothing w w' := classNot_any x w
theorem classOrL (x y : Cls) (w : World) : Calls Try.prog 59 #[.agg #[.int .u64 (wd x 0), .int .u64 (wd x 1), .int .u64 (wd x 2), .int .u64 (wd x 3)], .agg #[.int .u64 (wd y 0), .int .u64 (wd y 1), .int .u64 (wd y 2), .int .u64 (wd y 3)]] w fun e w' => e = .returned (.agg #[.int .u64 (wd (x ||| y) 0), .int .u64 (wd (x ||| y) 1), .int .u64 (wd (x ||| y) 2), .int .u64 (wd (x ||| y) 3)]) ∧ Chg Nothing w w' := classOr_any x y w
theorem classRangeL (a b : Nat) (w : World) (ha : a < 256) (hb : b < 256) : Calls Try.prog 19 #[.int .u8 a, .int .u8 b] w fun e w' => e = .returned (.agg #[.int .u64 (wd (rangeC a b) 0), .int .u64 (wd (rangeC a b) 1), .int .u64 (wd (rangeC a b) 2), .int .u64 (wd (rangeC a b) 3)]) ∧ Chg Nothing w w' := classRange_any a b w ha hb
theorem classFullL (w : World) : Calls Try.prog 24 #[] w fun e w' => e = .returned (.agg #[.int .u64 (wd fullC 0), .int .u64 (wd fullC 1), .int .u64 (wd fullC 2), .int .u64 (wd fullC 3)]) ∧ Chg Nothing w w' := classFull_any w
theorem classOfL (s : ByteArray) (w : World) (hs : s.size ≤ 9223372036854775807) : Calls Try.prog 54 #[.string s] w fun e w' => e = .returned (.agg #[.int .u64 (wd (ofC s) 0), .int .u64 (wd (ofC s) 1), .int .u64 (wd (ofC s) 2), .int .u64 (wd (ofC s) 3)]) ∧ Chg Nothing w w' := classOf_any s w hs
end Go.Proofs.Ytpndjehiacmngaa
