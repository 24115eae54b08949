/- Layer 13: printing: the program's Element. -/
import Derived.Test.YtpndjehiacmngaaPrnB
import Derived.Test.YtpndjehiacmngaaLibD
import Derived.Test.YtpndjehiacmngaaTokN
import Derived.Deep.DeepCutAuto
namespace Go.Proofs.Ytpndjehiacmngaa
open Go.RowKit
set_option linter.unusedVariables false
attribute [local go_sem ↓] Go.wp_at_zero Go.wp_at_succ
def outsideSet : ByteArray := ⟨#[92, 34, 63, 91]⟩
/-- A row of bytes is written behind a text. -/
def runT (out : ByteArray) (r : Nat × Nat) : ByteArray :=
  let o1 := out ++ writtenS r.1 insideSet
  let o2 := if 1 < r.2 - r.1 then o1 ++ ⟨#[45]⟩ else o1
  if r.1 < r.2 then o2 ++ writtenS r.2 insideSet else o2
def runsT (rs : List (Nat × Nat)) : ByteArray := rs.foldl runT ⟨#[91]⟩
theorem writtenS_size (b : Nat) (ap : ByteArray) : 1 ≤ (writtenS b ap).size ∧ (writtenS b ap).size ≤ 4 := by
  unfold writtenS
  split
  · rw [ByteArray.size_append, ByteArray.size_append]
    have h1 := digS_size (b / 16); have h2 := digS_size (b % 16)
    have h3 : (⟨#[92, 120]⟩ : ByteArray).size = 2 := rfl
    omega
  · split
    · rw [ByteArray.size_append, byteS_size]
      have h3 : (⟨#[92]⟩ : ByteArray).size = 1 := rfl
      omega
    · rw [byteS_size]; omega
theorem runT_size (out : ByteArray) (r : Nat × Nat) : out.size + 1 ≤ (runT out r).size ∧ (runT out r).size ≤ out.size + 9 := by
  have h1 := writtenS_size r.1 insideSet
  have h2 := writtenS_size r.2 insideSet
  have h3 : (⟨#[45]⟩ : ByteArray).size = 1 := rfl
  unfold runT
  simp only []
  split <;> split <;> simp only [ByteArray.size_append] <;> omega
theorem runsT_go (rs : List (Nat × Nat)) : ∀ (out : ByteArray), out.size + rs.length ≤ (rs.foldl runT out).size ∧ (rs.foldl runT out).size ≤ out.size + 9 * rs.length := by
  induction rs with
  | nil => intro out; simp
  | cons r rs ih =>
    intro out
    have h1 := runT_size out r
    have h2 := ih (runT out r)
    simp only [List.foldl_cons, List.length_cons]
    omega
/-- The bytes of rows are bytes, each row from one to another one. -/
theorem runs_ok (x : Cls) (k : Nat) : ∀ r ∈ runsTo x k, r.1 ≤ r.2 ∧ r.2 < k := by
  induction k with
  | zero => intro r hr; simp [runsTo] at hr
  | succ k ih =>
    intro r hr
    rw [runsTo_succ] at hr
    unfold runsStep at hr
    split at hr
    · split at hr
      · rw [List.mem_append] at hr
        rcases hr with hr | hr
        · have := ih r (List.dropLast_subset _ hr); omega
        · simp only [List.mem_singleton] at hr
          subst hr
          have hl : (runsTo x k).getLastD (0, 0) ∈ (0, 0) :: runsTo x k := List.getLastD_mem_cons
          rw [List.mem_cons] at hl
          rcases hl with hl | hl
          · rw [hl]; exact ⟨Nat.zero_le _, by simp⟩
          · have := ih _ hl; exact ⟨by simp only []; omega, by simp⟩
      · rw [List.mem_append] at hr
        rcases hr with hr | hr
        · have := ih r hr; omega
        · simp only [List.mem_singleton] at hr; subst hr; exact ⟨Nat.le_refl _, by simp⟩
    · have := ih r hr; omega
theorem runs_nil (x : Cls) (k : Nat) : runsTo x k = [] ↔ ∀ i, i < k → x.getLsbD i = false := by
  induction k with
  | zero => constructor
            · intro _ i hi; omega
            · intro _; rfl
  | succ k ih =>
    rw [runsTo_succ]
    unfold runsStep
    by_cases hb : x.getLsbD k = true
    · rw [if_pos hb]
      constructor
      · intro h; exfalso; split at h <;> simp at h
      · intro h; have := h k (by omega); rw [hb] at this; cases this
    · rw [if_neg hb, ih]
      constructor
      · intro h i hi
        rcases Nat.lt_or_ge i k with h1 | h1
        · exact h i h1
        · have : i = k := by omega
          subst this; simpa using hb
      · intro h i hi; exact h i (by omega)
theorem runsC_nil (x : Cls) : runsC x = [] ↔ x = 0 := by
  unfold runsC
  rw [runs_nil]
  constructor
  · intro h; exact cls_ext fun i hi => by rw [h i hi]; simp
  · rintro rfl i hi; simp
theorem singleC_lt {x : Cls} {b : Nat} (h : singleC x = some b) : b < 256 := by
  unfold singleC at h
  cases hf : (List.range 256).find? fun b => x.getLsbD b with
  | none => rw [hf] at h; cases h
  | some q =>
    rw [hf] at h
    have hm := List.mem_of_find?_eq_some hf
    rw [List.mem_range] at hm
    simp only [Option.bind_some] at h
    split at h
    · injection h with h; omega
    · cases h
/-- The text of a class. -/
def elemS (x : Cls) : Option ByteArray :=
  if x = fullC then some ⟨#[63]⟩
  else match singleC x with
    | some b => some (writtenS b outsideSet)
    | none => if x = 0 then none else some (runsT (runsC x) ++ ⟨#[93]⟩)
def elemV (x : Cls) : Array Value := match elemS x with
  | some t => #[.string t, .bool true]
  | none => #[.string ByteArray.empty, .bool false]
theorem runsTake (rs : List (Nat × Nat)) (k : Nat) (h : k < rs.length) : runsT (rs.take (k + 1)) = runT (runsT (rs.take k)) (rs.getD k (0, 0)) := by
  unfold runsT
  rw [List.take_succ_eq_append_getElem h, List.foldl_append]
  simp [h]
theorem encR_at (rs : List (Nat × Nat)) (k j : Nat) (hk : k < rs.length) (hj : j < 2) : (rs.flatMap encR).getD (k * 2 + j) undef = (encR (rs.getD k (0, 0))).getD j undef := flat_getD encR 2 (fun _ => rfl) (0, 0) rs k j hk hj
def ElInv (x : Cls) (w : World) (A : Option Addr) (n c : Nat) (ov iv : Value) (wr : World) : Prop :=
  ∃ k : Nat, k ≤ n ∧ iv = .int .i64 k ∧ ov = .string (runsT ((runsC x).take k)) ∧ Hid (RowAt 2 (fun j => j < wr.heap.size) wr A n c ((runsC x).flatMap encR)) ∧ Chg Nothing w wr
set_option maxHeartbeats 4000000 in
set_option maxRecDepth 100000 in
theorem tokElement_any (x : Cls) (w : World) :
    Calls Try.prog 14 #[encC x] w fun e w' => e = .returned (.tuple (elemV x)) ∧ Chg Nothing w w' := by
  unfold encC
  have hX := Blk.new w (cellsC x) 35
  have HX' := hid hX
  obtain ⟨r0, r1, r2, r3, f0, f1, f2, f3, hlt⟩ := CBox.at_ hX
  clear hX
  have hq := eq_class x fullC
  by_cases hf : x = fullC
  · have hE := hid (show elemV x = #[.string ⟨#[63]⟩, .bool true] from by unfold elemV elemS; rw [if_pos hf])
    rw [hE.out]
    rw [decide_eq_true hf] at hq
    unfold encC at hq
    replace hf := hid hf
    go_enter Try.func14, Try.ntmps14
    go_wp2_with fail
    go_region_with (first | (go_at_call 24; (with_reducible refine (classFullL _).mono ?_); rintro e w3 ⟨rfl, hcx⟩; have HX3 := hid (Blk.chg (Blk.drew HX'.out) hcx id); obtain ⟨y0, y1, y2, y3, z0, z1, z2, z3, hl3⟩ := CBox.at_ HX3.out; have hcy := hid hcx; clear hcx))
    all_goals
      go_wp2
      go_ret2
      exact ⟨rfl, (((Chg.refl Nothing w).alloc _).drew).trans hcy.out⟩
  · rw [decide_eq_false hf] at hq
    unfold encC at hq
    have hE0 : Hid (elemS x = match singleC x with
      | some b => some (writtenS b outsideSet)
      | none => if x = 0 then none else some (runsT (runsC x) ++ ⟨#[93]⟩)) := hid (by unfold elemS; rw [if_neg hf])
    replace hf := hid hf
    cases hsg : singleC x with
    | some b =>
      have hb : b < 256 := singleC_lt hsg
      have hE := hid (show elemV x = #[.string (writtenS b outsideSet), .bool true] from by unfold elemV; rw [hE0.out, hsg])
      have hS := hid (show ∀ w, Calls Try.prog 25 #[.agg #[.int .u64 (wd x 0), .int .u64 (wd x 1), .int .u64 (wd x 2), .int .u64 (wd x 3)]] w fun e w' => e = .returned (.tuple #[.int .u8 b, .bool true]) ∧ Chg Nothing w w' from fun w => by
        have := classSingle_any x w
        unfold singleV at this
        rw [hsg] at this; exact this)
      rw [hE.out]
      clear hsg
      go_enter Try.func14, Try.ntmps14
      go_wp2_with fail
      go_region_with (first | (go_at_call 24; (with_reducible refine (classFullL _).mono ?_); rintro e w3 ⟨rfl, hcx⟩; have HX3 := hid (Blk.chg (Blk.drew HX'.out) hcx id); obtain ⟨y0, y1, y2, y3, z0, z1, z2, z3, hl3⟩ := CBox.at_ HX3.out; have hcy := hid hcx; clear hcx))
      all_goals
        go_wp2_with fail
        refine (hS.out _).mono ?_
        rintro e w4 ⟨rfl, hc4⟩
        go_wp2_with fail
        refine (tokWritten_any b outsideSet _ (by omega)).mono ?_
        rintro e w5 ⟨rfl, hc5⟩
        go_wp2
        go_ret2
        exact ⟨rfl, (((((Chg.refl Nothing w).alloc _).drew).trans hcy.out).trans hc4).trans hc5⟩
    | none =>
      have hE1 : Hid (elemS x = if x = 0 then none else some (runsT (runsC x) ++ ⟨#[93]⟩)) := hid (by rw [hE0.out, hsg])
      have hS := hid (show ∀ w, Calls Try.prog 25 #[.agg #[.int .u64 (wd x 0), .int .u64 (wd x 1), .int .u64 (wd x 2), .int .u64 (wd x 3)]] w fun e w' => e = .returned (.tuple #[.int .u8 0, .bool false]) ∧ Chg Nothing w w' from fun w => by
        have := classSingle_any x w
        unfold singleV at this
        rw [hsg] at this; exact this)
      clear hsg
      go_enter Try.func14, Try.ntmps14
      go_wp2_with fail
      go_region_with (first | (go_at_call 24; (with_reducible refine (classFullL _).mono ?_); rintro e w3 ⟨rfl, hcx⟩; have HX3 := hid (Blk.chg (Blk.drew HX'.out) hcx id); obtain ⟨y0, y1, y2, y3, z0, z1, z2, z3, hl3⟩ := CBox.at_ HX3.out; have hcy := hid hcx; clear hcx))
      all_goals
        go_wp2_with fail
        refine (hS.out _).mono ?_
        rintro e w4 ⟨rfl, hc4⟩
        have HX4 := hid (Blk.chg HX3.out hc4 id)
        clear r0 r1 r2 r3 f0 f1 f2 f3 y0 y1 y2 y3 z0 z1 z2 z3
        obtain ⟨r0, r1, r2, r3, f0, f1, f2, f3, hlt4⟩ := CBox.at_ HX4.out
        have hC4 := hid (((((Chg.refl Nothing w).alloc _).drew).trans hcy.out).trans hc4)
        clear hc4
        go_wp2_with fail
        refine (classRuns_any x _).mono ?_
        rintro e w5 ⟨A, n, c, rfl, hrl, hown, hc5⟩
        have hC5 := hid (hC4.out.trans hc5)
        have HR5 := hid ((RowAt.of_own hown).mono (G := fun j => j < w5.heap.size) (fun j hj _ => hj))
        replace hrl := hid hrl
        clear hown hc5 r0 r1 r2 r3 f0 f1 f2 f3 hlt4 HX4 HX3 hcy hC4
        go_wp2_with fail
        have hrn : n ≤ 256 := by have := runsTo_len x 256; have h2 := hrl.out; unfold runsC at h2; omega
        go_loopw [6, 23] (fun ov iv wr => ElInv x w A n c ov iv wr) (fun _ iv _ => n - (intOf iv).toNat)
        case atStart => exact ⟨0, Nat.zero_le _, rfl, rfl, HR5, hC5.out⟩
        case round =>
          clear HR5 hC5 hS
          obtain ⟨k, hk, rfl, rfl, HR, hchg⟩ := hrel
          rcases Nat.lt_or_ge k n with hkn | hkn
          · obtain ⟨g, o, rfl, hg, hgl, hcell⟩ := HR.out.cell hkn (by decide)
            have hc0 := hcell 0 (by decide)
            have hc1 := hcell 1 (by decide)
            rw [encR_at _ k 0 (by rw [hrl.out]; exact hkn) (by decide)] at hc0
            rw [encR_at _ k 1 (by rw [hrl.out]; exact hkn) (by decide)] at hc1
            have hrk := runs_ok x 256 ((runsC x).getD k (0, 0)) (by
              rw [List.getD_eq_getElem?_getD, List.getElem?_eq_getElem (by rw [hrl.out]; exact hkn)]
              exact List.getElem_mem _)
            have hT := hid (runsTake (runsC x) k (by rw [hrl.out]; exact hkn))
            generalize (runsC x).getD k (0, 0) = rr at hc0 hc1 hrk hT
            obtain ⟨f, t⟩ := rr
            simp only [encR] at hc0 hc1
            simp only [List.getD_cons_zero, List.getD_cons_succ] at hc0 hc1
            simp only at hrk
            replace hc0 : wr.cell? ⟨g, o + k * 2, none⟩ = some (.int .u8 f) := hc0
            replace hc1 : wr.cell? ⟨g, o + k * 2 + 1, none⟩ = some (.int .u8 t) := hc1
            clear hcell hg
            have hso := (runsT_go ((runsC x).take k) ⟨#[91]⟩).2
            have hso : (runsT ((runsC x).take k)).size ≤ 3000 := by
              have h1 : (⟨#[91]⟩ : ByteArray).size = 1 := rfl
              have h2 : ((runsC x).take k).length ≤ k := List.length_take_le _ _
              unfold runsT; omega
            generalize hOut : runsT ((runsC x).take k) = out at hso hT
            replace hOut := hid hOut
            have hw1 := (writtenS_size f insideSet).2
            have hw2 := (writtenS_size t insideSet).2
            have hbf : (f : Int) < 256 := by omega
            have hbt : (t : Int) < 256 := by omega
            have ku := IntWalk.u8_in ((t : Int) - (f : Int)) (by omega)
            have hcase : t = f ∨ t = f + 1 ∨ f + 1 < t := by omega
            rcases hcase with ht | ht | ht
            · have hR := hid (show runT out (f, t) = out ++ writtenS f insideSet from by unfold runT; simp only []; rw [if_neg (by omega), if_neg (by omega)])
              have ht1 : ¬ (1 : Int) < (t : Int) - (f : Int) := by omega
              have ht2 : ¬ (f : Int) < (t : Int) := by omega
              replace ht := hid ht
              go_wp2_with fail
              refine (tokWritten_any f insideSet _ hbf).mono ?_
              rintro e w6 ⟨rfl, hc⟩
              have HR6 := hid (HR.out.chg (((Chg.refl Nothing wr).alloc (.cells #[.int .u8 f, .int .u8 t] 66)).trans hc) (fun _ _ _ h => h))
              have hC6 := hid ((hchg.alloc (.cells #[.int .u8 f, .int .u8 t] 66)).trans hc)
              have HB6 := (Blk.new wr #[.int .u8 f, .int .u8 t] 66).chg hc id
              have b0 := HB6.cell 0 rfl
              have b1 := HB6.cell 1 rfl
              have hl6 := HB6.lt
              clear hc HR hchg hc0 hc1
              go_wp2
              go_roundw
              case rel => exact ⟨k + 1, hkn, by go_num, by rw [hT.out, hR.out], hid (HR6.out.mono (fun j hj _ => hj)), hC6.out⟩
              case measure => simp [intOf]; omega
            · have hR := hid (show runT out (f, t) = (out ++ writtenS f insideSet) ++ writtenS t insideSet from by unfold runT; simp only []; rw [if_pos (by omega), if_neg (by omega)])
              have ht1 : ¬ (1 : Int) < (t : Int) - (f : Int) := by omega
              have ht2 : (f : Int) < (t : Int) := by omega
              replace ht := hid ht
              go_wp2_with fail
              refine (tokWritten_any f insideSet _ hbf).mono ?_
              rintro e w6 ⟨rfl, hc⟩
              have HR6 := hid (HR.out.chg (((Chg.refl Nothing wr).alloc (.cells #[.int .u8 f, .int .u8 t] 66)).trans hc) (fun _ _ _ h => h))
              have hC6 := hid ((hchg.alloc (.cells #[.int .u8 f, .int .u8 t] 66)).trans hc)
              have HB6 := (Blk.new wr #[.int .u8 f, .int .u8 t] 66).chg hc id
              have b0 := HB6.cell 0 rfl
              have b1 := HB6.cell 1 rfl
              have hl6 := HB6.lt
              clear hc HR hchg hc0 hc1
              go_wp2_with fail
              refine (tokWritten_any t insideSet _ hbt).mono ?_
              rintro e w7 ⟨rfl, hc⟩
              have HR7 := hid (HR6.out.chg hc (fun _ _ _ h => h))
              have hC7 := hid (hC6.out.trans hc)
              clear hc HR6 hC6 HB6 b0 b1
              go_wp2
              go_roundw
              case rel => exact ⟨k + 1, hkn, by go_num, by rw [hT.out, hR.out], hid (HR7.out.mono (fun j hj _ => hj)), hC7.out⟩
              case measure => simp [intOf]; omega
            · have hR := hid (show runT out (f, t) = ((out ++ writtenS f insideSet) ++ ⟨#[45]⟩) ++ writtenS t insideSet from by unfold runT; simp only []; rw [if_pos (by omega), if_pos (by omega)])
              have ht1 : (1 : Int) < (t : Int) - (f : Int) := by omega
              have ht2 : (f : Int) < (t : Int) := by omega
              have hdz : (⟨#[45]⟩ : ByteArray).size ≤ 1 := Nat.le_refl 1
              go_wp2_with fail
              refine (tokWritten_any f insideSet _ hbf).mono ?_
              rintro e w6 ⟨rfl, hc⟩
              have HR6 := hid (HR.out.chg (((Chg.refl Nothing wr).alloc (.cells #[.int .u8 f, .int .u8 t] 66)).trans hc) (fun _ _ _ h => h))
              have hC6 := hid ((hchg.alloc (.cells #[.int .u8 f, .int .u8 t] 66)).trans hc)
              have HB6 := (Blk.new wr #[.int .u8 f, .int .u8 t] 66).chg hc id
              have b0 := HB6.cell 0 rfl
              have b1 := HB6.cell 1 rfl
              have hl6 := HB6.lt
              clear hc HR hchg hc0 hc1
              go_wp2_with fail
              refine (tokWritten_any t insideSet _ hbt).mono ?_
              rintro e w7 ⟨rfl, hc⟩
              have HR7 := hid (HR6.out.chg hc (fun _ _ _ h => h))
              have hC7 := hid (hC6.out.trans hc)
              clear hc HR6 hC6 HB6 b0 b1
              go_wp2
              go_roundw
              case rel => exact ⟨k + 1, hkn, by go_num, by rw [hT.out, hR.out], hid (HR7.out.mono (fun j hj _ => hj)), hC7.out⟩
              case measure => simp [intOf]; omega
          · have hkn' : k = n := by omega
            subst hkn'
            have hall := hid (show (runsC x).take k = runsC x from List.take_of_length_le (by rw [hrl.out]; exact Nat.le_refl _))
            rw [hall.out]
            have hgo := runsT_go (runsC x) ⟨#[91]⟩
            have h91 : (⟨#[91]⟩ : ByteArray).size = 1 := rfl
            have hrl' := hrl.out
            by_cases h0 : x = 0
            · have hE := hid (show elemV x = #[.string ByteArray.empty, .bool false] from by unfold elemV; rw [hE1.out, if_pos h0])
              have hr0 := hid (show runsT (runsC x) = ⟨#[91]⟩ from by rw [(runsC_nil x).2 h0]; rfl)
              rw [hr0.out]
              clear hgo hrl' h91 h0
              go_wp2
              go_ret2
              exact ⟨by rw [hE.out]; rfl, hchg⟩
            · have hE := hid (show elemV x = #[.string (runsT (runsC x) ++ ⟨#[93]⟩), .bool true] from by unfold elemV; rw [hE1.out, if_neg h0])
              have hlen : 0 < (runsC x).length := by
                rcases Nat.eq_zero_or_pos (runsC x).length with h | h
                · exact absurd ((runsC_nil x).1 (List.eq_nil_of_length_eq_zero h)) h0
                · exact h
              have hsz : 2 ≤ (runsT (runsC x)).size ∧ (runsT (runsC x)).size ≤ 3000 := by unfold runsT; omega
              obtain ⟨out, hout⟩ : ∃ out, out = runsT (runsC x) := ⟨_, rfl⟩
              rw [← hout] at hsz ⊢
              replace hout := hid hout
              have hne : (out.toList == [91]) = false := by
                rw [beq_eq_false_iff_ne]; intro e
                have hl : out.toList.length = out.size := by rw [ByteArray.toList_eq]; simp
                rw [e] at hl
                have := hsz.1
                simp at hl; omega
              clear hgo hrl' h91 h0 hlen
              go_wp2
              go_ret2
              exact ⟨by rw [hE.out, ← hout.out]; rfl, hchg⟩
end Go.Proofs.Ytpndjehiacmngaa
