/- Layer 6, class: Of, Single, Runs. -/
import Derived.Test.YtpndjehiacmngaaClassB
import Derived.Deep.RegionWith
namespace Go.Proofs.Ytpndjehiacmngaa
open Go.RowKit
set_option linter.unusedVariables false

/-- The class of the bytes of a text. -/
def ofC (s : ByteArray) : Cls := s.data.toList.foldl (fun acc b => acc ||| BitVec.twoPow 256 b.toNat) 0
def ofTo (s : ByteArray) (k : Nat) : Cls := (s.data.toList.take k).foldl (fun acc b => acc ||| BitVec.twoPow 256 b.toNat) 0
theorem ofTo_succ (s : ByteArray) (k : Nat) (h : k < s.size) : ofTo s (k + 1) = ofTo s k ||| BitVec.twoPow 256 (s[k].toNat) := by
  unfold ofTo
  rw [List.take_succ_eq_append_getElem (by simpa using h), List.foldl_append]
  rfl
theorem ofTo_all (s : ByteArray) (k : Nat) (h : s.size ≤ k) : ofTo s k = ofC s := by
  unfold ofTo ofC; rw [List.take_of_length_le (by simpa using h)]

set_option maxHeartbeats 1000000 in
theorem classOf_any (s : ByteArray) (w : World) (hs : s.size ≤ 9223372036854775807) :
    Calls Try.prog 54 #[.string s] w fun e w' => e = .returned (encC (ofC s)) ∧ Chg Nothing w w' := by
  go_enter Try.func54, Try.ntmps54
  go_wp2_with fail
  go_loopw [7] (fun i wr => ∃ k : Nat, k ≤ s.size ∧ i = .int .i64 k ∧ CBox wr (w.heap.size + 1) (ofTo s k) ∧ CBox wr w.heap.size 0 ∧ Chg Nothing w wr) (fun i _ => s.size - (intOf i).toNat)
  case atStart =>
    refine ⟨0, Nat.zero_le _, rfl, ?_, (CBox.zero w).alloc _, ((Chg.refl _ _).alloc _).alloc _⟩
    have := CBox.zero (w.alloc (.cells #[.int .u64 0, .int .u64 0, .int .u64 0, .int .u64 0] 35))
    rw [World.size_alloc] at this
    exact this
  case round =>
    obtain ⟨k, hk, rfl, hB, hB0, hcr⟩ := hrel
    by_cases hlt : k < s.size
    · obtain ⟨r0, r1, r2, r3, f0, f1, f2, f3, hlt1⟩ := hB.at_
      have HB := hid hB; clear hB
      have hsn := hid (ofTo_succ s k hlt)
      have h256 : s[k].toNat < 256 := UInt8.toNat_lt _
      go_wp2_with fail
      go_region_with (go_at_call 35; refine (classWith_any (ofTo s k) (s[k].toNat) _ h256).mono ?_; rintro e w3 ⟨rfl, hc⟩; have HB3 : CBox w3 (w.heap.size + 1) (ofTo s k) := Blk.chg (Blk.drew HB.out) hc id; obtain ⟨q0, q1, q2, q3, p0, p1, p2, p3, hlt3⟩ := CBox.at_ HB3; unfold encC)
      all_goals
        rw [← hsn.out]
        go_wp2
        go_roundw
        case rel => exact ⟨k + 1, by omega, by go_num, CBox.put HB3 _, (((((Blk.drew hB0).chg hc id).other (by simp) _).other (by simp) _).other (by simp) _).other (by simp) _, (hcr.drew.trans hc).putNew (by omega) _⟩
        case measure => simp [intOf]; omega
    · rw [ofTo_all s k (by omega)] at hB
      obtain ⟨r0, r1, r2, r3, f0, f1, f2, f3, hlt1⟩ := hB.at_
      obtain ⟨s0, s1, s2, s3, g0, g1, g2, g3, hlt2⟩ := hB0.at_
      have HB := hid hB; clear hB
      have HB0 := hid hB0; clear hB0
      go_wp2
      have hout := HB0.out.put (ofC s)
      obtain ⟨t0, t1, t2, t3, _⟩ := CBox.at_ hout
      refine bodyPost_ret (v := encC (ofC s)) ?_ rfl ⟨rfl, hcr.putNew (Nat.le_refl _) _⟩
      show (results Try.f54 _).run Try.prog (putC wr w.heap.size (ofC s)) = _
      simp [results, Try.results54, go_sem, encC, t0, t1, t2, t3]
      rfl

/-- The first byte of a class. -/
def firstC (x : Cls) (k : Nat) : Prop := ∀ j, j < k → x.getLsbD j = false
/-- A class that has one byte. -/
def singleC (x : Cls) : Option Nat := ((List.range 256).find? fun b => x.getLsbD b).bind fun b => if x = BitVec.twoPow 256 b then some b else none
theorem singleC_hit {x : Cls} {k : Nat} (hk : k < 256) (h : firstC x k) (hb : x.getLsbD k = true) : singleC x = if x = BitVec.twoPow 256 k then some k else none := by
  have : (List.range 256).find? (fun b => x.getLsbD b) = some k := by
    rw [List.find?_range_eq_some]
    exact ⟨hb, by simpa using hk, fun j hj => by simp [h j hj]⟩
  unfold singleC; rw [this]; rfl
theorem singleC_none {x : Cls} (h : firstC x 256) : singleC x = none := by
  have : (List.range 256).find? (fun b => x.getLsbD b) = none := by
    rw [List.find?_eq_none]; intro j hj; simp [h j (by simpa using hj)]
  unfold singleC; rw [this]; rfl
def singleV (x : Cls) : Array Value := match singleC x with | some b => #[.int .u8 b, .bool true] | none => #[.int .u8 0, .bool false]

theorem classWith_zero (k : Nat) (w : World) (h : k < 256) :
    Calls Try.prog 35 #[.agg #[.int .u64 0, .int .u64 0, .int .u64 0, .int .u64 0], .int .u8 k] w fun e w' => e = .returned (encC (BitVec.twoPow 256 k)) ∧ Chg Nothing w w' := by
  have := classWith_any 0 k w h
  rw [encC_zero, show (0 : Cls) ||| BitVec.twoPow 256 k = BitVec.twoPow 256 k from BitVec.zero_or] at this
  exact this

/-- How `==` of two classes runs. -/
theorem eq_class (x y : Cls) (w : World) : (Op.equalIn 10000 35 (encC x) (encC y)).run Try.prog w = .ok (decide (x = y)) w := by
  have u3 := Try.underlying33
  have a3 := Try.isAgg33
  have z3 := Try.sizeOf33
  have hd : decide (x = y) = decide (wd x 0 = wd y 0 ∧ wd x 1 = wd y 1 ∧ wd x 2 = wd y 2 ∧ wd x 3 = wd y 3) := by
    apply decide_eq_decide.2
    constructor
    · rintro rfl; simp
    · rintro ⟨h0, h1, h2, h3⟩
      apply encC_inj; unfold encC; rw [h0, h1, h2, h3]
  rw [hd]
  unfold encC
  rw [show (10000 : Nat) = 9999 + 1 from rfl, Op.equalIn]
  simp only [Sem.run_bind, run_underlying Try.underlying35, Result.andThen_ok]
  simp only [Std.Legacy.Range.forIn_eq_forIn_range', Std.Legacy.Range.size, Nat.sub_zero, Nat.add_sub_cancel, Nat.div_one, List.range'_succ, List.range'_zero, List.forIn_cons, List.forIn_nil]
  go_simp
  by_cases h0 : wd x 0 = wd y 0 <;> by_cases h1 : wd x 1 = wd y 1 <;> by_cases h2 : wd x 2 = wd y 2 <;> by_cases h3 : wd x 3 = wd y 3 <;> simp [h0, h1, h2, h3]

set_option maxRecDepth 20000 in
set_option maxHeartbeats 1000000 in
theorem classSingle_any (x : Cls) (w : World) :
    Calls Try.prog 25 #[encC x] w fun e w' => e = .returned (.tuple (singleV x)) ∧ Chg Nothing w w' := by
  unfold encC
  go_enter Try.func25, Try.ntmps25
  go_wp2_with fail
  go_loopw [6] (fun i wr => ∃ k : Nat, (k : Int) ≤ 256 ∧ i = .int .i64 k ∧ CBox wr w.heap.size x ∧ Hid (firstC x k) ∧ Chg Nothing w wr) (fun i _ => 256 - (intOf i).toNat)
  case atStart => exact ⟨0, by omega, rfl, Blk.new w _ _, hid (fun j hj => by omega), (Chg.refl _ _).alloc _⟩
  case round =>
    obtain ⟨k, hk, rfl, hB, hfirst, hcr⟩ := hrel
    obtain ⟨r0, r1, r2, r3, f0, f1, f2, f3, hlt1⟩ := hB.at_
    have HB := hid hB; clear hB
    have hlg : (k : Int) < 256 ∨ 256 ≤ (k : Int) := by omega
    rcases hlg with hlt | hge
    · go_wp2_with fail
      refine (classHas_any x k wr (by omega)).mono ?_
      rintro e w3 ⟨rfl, hc⟩
      have HB3 : CBox w3 w.heap.size x := HB.out.chg hc id
      have hcr3 := hcr.trans hc
      clear r0 r1 r2 r3 f0 f1 f2 f3 hlt1 HB hc hcr
      obtain ⟨r0, r1, r2, r3, f0, f1, f2, f3, hlt1⟩ := CBox.at_ HB3
      have HB3' := hid HB3; clear HB3
      cases hb : x.getLsbD k with
      | true =>
        have hbh := hid hb; clear hb
        have hwk : IntKind.u8.wrap (k : Int) = k := by simp [IntKind.wrap, IntKind.bits, IntKind.signed]; omega
        have hwk' := hid hwk; clear hwk
        have heq := fun w => eq_class x (BitVec.twoPow 256 k) w
        unfold encC at heq
        go_wp2_with fail
        go_region_with (go_at_call 35; rw [hwk'.out]; refine (classWith_zero k _ (by omega)).mono ?_; rintro e w4 ⟨rfl, hc⟩; have HB4 : CBox w4 w.heap.size x := Blk.chg (Blk.drew HB3'.out) hc id; obtain ⟨q0, q1, q2, q3, p0, p1, p2, p3, hlt3⟩ := CBox.at_ HB4; unfold encC)
        all_goals
          have hkn : k < 256 := by omega
          have hs := singleC_hit hkn hfirst.out hbh.out
          by_cases hx : x = BitVec.twoPow 256 k
          · rw [if_pos hx] at hs
            have hsh := hid hs
            have hbx := hid (decide_eq_true hx)
            clear hs hx hkn
            rw [hbx.out]
            go_wp2
            go_ret2
            exact ⟨by unfold singleV; rw [hsh.out]; rfl, hcr3.drew.trans hc⟩
          · rw [if_neg hx] at hs
            have hsh := hid hs
            have hbx := hid (decide_eq_false hx)
            clear hs hx hkn
            rw [hbx.out]
            go_wp2
            go_ret2
            exact ⟨by unfold singleV; rw [hsh.out]; rfl, hcr3.drew.trans hc⟩
      | false =>
        have hbh := hid hb; clear hb
        go_wp2
        go_roundw
        case rel => exact ⟨k + 1, by omega, by go_num, HB3'.out, hid (fun j hj => by
          rcases Nat.lt_succ_iff_lt_or_eq.1 hj with h | rfl
          · exact hfirst.out j h
          · exact hbh.out), hcr3⟩
        case measure => simp [intOf]; omega
    · have hk256 : k = 256 := by omega
      have hs := hid (singleC_none (hk256 ▸ hfirst.out)); clear hk256
      have hd : decide ((k : Int) < 256) = false := decide_eq_false (by omega)
      clear hge hk
      go_wp2
      go_ret2
      exact ⟨by unfold singleV; rw [hs.out]; rfl, hcr⟩
end Go.Proofs.Ytpndjehiacmngaa
