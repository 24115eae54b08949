/- Layer 13: the law TokenRows. -/
import Derived.Test.YtpndjehiacmngaaReadC
import Derived.Test.YtpndjehiacmngaaPrtA
import Derived.Test.YtpndjehiacmngaaBunO
namespace Go.Proofs.Ytpndjehiacmngaa
open Go.RowKit
set_option linter.unusedVariables false
attribute [local go_sem ↓] Go.wp_at_zero Go.wp_at_succ
/-- What two bits of a number are. -/
theorem low_bits (x : Int) : ∃ r : Nat, bits .and .i64 x 3 = r ∧ r ≤ 3 := by
  refine ⟨(BitVec.ofInt 64 x &&& BitVec.ofInt 64 3).toNat, ?_, ?_⟩
  · have h : (BitVec.ofInt 64 x &&& BitVec.ofInt 64 3).toNat ≤ 3 := by
      rw [BitVec.toNat_and]; exact Nat.and_le_right
    show IntKind.i64.wrap ((BitVec.ofInt 64 x &&& BitVec.ofInt 64 3).toNat : Int) = _
    exact IntWalk.i64_in _ (by omega)
  · rw [BitVec.toNat_and]; exact Nat.and_le_right
def blanksS : Nat → ByteArray
  | 0 => ByteArray.empty
  | k + 1 => blanksS k ++ blankS
theorem TextRun.blanks {s : ByteArray} {l : List Tok} (h : TextRun s l) : ∀ k, TextRun (s ++ blanksS k) l
  | 0 => by unfold blanksS; rw [ByteArray.append_empty]; exact h
  | k + 1 => by unfold blanksS; rw [← ByteArray.append_assoc]; exact (h.blanks k).blank
def tz0 : TZ := ⟨0, 0, 0, [], none, 0, 0⟩
def RwInv (w : World) (n : Nat) (kv sv ov : Value) (wr : World) : Prop :=
  ∃ (k : Nat) (s : ByteArray) (A' : Option Addr) (c' : Nat) (ps : List TP), k ≤ n ∧ kv = .int .i64 k ∧ sv = .string s ∧ ov = .slice A' k c' ∧ Hid (wr.ownsRow w.heap.size 42 4 (.slice A' k c') k (ps.flatMap tpL)) ∧
    Hid (TextRun s (ps.map TP.t)) ∧ Hid (∀ p ∈ ps, PRead (fun _ => True) w p ∧ p.l ≤ 100) ∧ Hid (ps.length = k) ∧ s.size ≤ k * 2000010 ∧ Chg Nothing w wr
def RwIn (s : ByteArray) (r : Nat) (sv iv : Value) : Prop := ∃ j : Nat, j ≤ r ∧ iv = .int .i64 j ∧ ∃ t, sv = .string t ∧ Hid (t = s ++ blanksS j) ∧ t.size = s.size + j
set_option maxHeartbeats 16000000 in
set_option maxRecDepth 100000 in
theorem TokenRows_walk (A : Option Addr) (n c : Nat) (ts : List TZ) (B : Option Addr) (m d : Nat) (bs : List Int) (w : World) (H : RowAt 4 (fun k => k < w.heap.size) w A n c (ts.flatMap tzL)) (hl : ts.length = n) (HT : ∀ t ∈ ts, TZRead (fun k => k < w.heap.size) w t)
    (HB : IntsAt (fun k => k < w.heap.size) w B m d bs) (hb8 : m * 8 ≤ 140737488351232) (hbs : ∀ x ∈ bs, -9223372036854775808 ≤ x ∧ x ≤ 9223372036854775807) :
    Calls Try.prog 6 #[.slice A n c, .slice B m d] w fun e w' => e = .returned (.bool true) ∧ Chg Nothing w w' := by
  by_cases hn : 30 < n
  · have hni : (30 : Int) < (n : Int) := by omega
    clear H HT HB hl
    go_enter Try.func6, Try.ntmps6
    go_wp2_with fail
    refine (alive_any _).mono ?_
    rintro e w1 ⟨rfl, hc⟩
    go_wp2
    go_ret
    exact ⟨rfl, hc⟩
  have hni : ¬ (30 : Int) < (n : Int) := by omega
  by_cases hm : 30 < m
  · have hmi : (30 : Int) < (m : Int) := by omega
    clear H HT HB hl
    go_enter Try.func6, Try.ntmps6
    go_wp2_with fail
    refine (alive_any _).mono ?_
    rintro e w1 ⟨rfl, hc⟩
    go_wp2
    go_ret
    exact ⟨rfl, hc⟩
  have hmi : ¬ (30 : Int) < (m : Int) := by omega
  have H' := hid H
  have HT' := hid HT
  have HB' := hid HB
  have hlh := hid hl
  have hle := H.le
  have hmx := H.max
  have hbs' := hid hbs
  have hml := HB.2.1
  have hmd := HB.2.2.1
  clear H HT HB hl hbs
  go_enter Try.func6, Try.ntmps6
  go_wp2_with fail
  go_loopw [25, 5, 6] (fun kv sv ov wr => RwInv w n kv sv ov wr) (fun kv _ _ _ => n - (intOf kv).toNat)
  case atStart => exact ⟨0, _, none, 0, [], Nat.zero_le _, rfl, rfl, rfl, hid (World.ownsRow_nil _ _ _ _), hid .nil, hid (fun p h => by simp at h), hid rfl, by decide, Chg.refl _ _⟩
  case round =>
    obtain ⟨k, s, A', c', ps, hk, rfl, rfl, rfl, hown, htr, hps, hpl, hss, hchg⟩ := hrel
    rcases Nat.lt_or_ge k n with hkn | hkn
    · have HR := H'.out.chg hchg (fun _ _ _ h => h)
      have hkl : k < ts.length := by rw [hlh.out]; exact hkn
      obtain ⟨g, o, rfl, -, hgl, hca⟩ := HR.cell hkn (by decide)
      have a0 := hca 0 (by decide)
      have a1 := hca 1 (by decide)
      have a2 := hca 2 (by decide)
      have a3 := hca 3 (by decide)
      rw [flat_getD tzL 4 tzL_len tz0 ts k _ hkl (by decide)] at a0 a1 a2 a3
      have hT := HT'.out (ts.getD k tz0) (by simp [hkl])
      generalize ts.getD k tz0 = t at a0 a1 a2 a3 hT
      obtain ⟨kd, at_, nn, xs, tA, tl, tc⟩ := t
      simp only [tzL, List.getD_cons_zero, List.getD_cons_succ] at a0 a1 a2 a3
      replace a0 : wr.cell? ⟨g, o + k * 4, none⟩ = some (.int .i64 kd) := a0
      have hxl : Hid (xs.length = tl) := hid hT.len
      have hTr := hid (fun w' (hc : Chg Nothing w w') => ((hT.row.chg hc (fun _ _ _ h => h)).mono (G := fun _ => True) (fun _ _ _ => trivial) : ClsRow (fun _ => True) w' tA tl tc xs))
      clear hca HR hkl hT hgl
      have hk0 : (0 : Int) ≤ (k : Int) := by omega
      have hkn' : (k : Int) < (n : Int) := by omega
      have hB0 := hid (Blk.new wr #[.int .i64 kd, .int .i64 at_, .int .i64 nn, .slice tA tl tc] 42)
      cases hp : printS kd nn xs with
      | none =>
        have h2 := hid (fun w h => by have := refPrint_any _ kd at_ nn tA tl tc xs w h hxl.out; rw [printV_none _ _ _ hp] at this; exact this : ∀ w, ClsRow (fun _ => True) w tA tl tc xs → Calls Try.prog 17 #[.agg #[.int .i64 kd, .int .i64 at_, .int .i64 nn, .slice tA tl tc]] w fun e w' => e = .returned (.tuple #[.string ByteArray.empty, .bool false]) ∧ Chg Nothing w w')
        replace hp := hid hp
        go_wp2_with fail
        refine (h2.out _ (hTr.out _ (hchg.alloc _))).mono ?_
        rintro e w1 ⟨rfl, hc1⟩
        have hC1 := hid ((hchg.alloc (.cells #[.int .i64 kd, .int .i64 at_, .int .i64 nn, .slice tA tl tc] 42)).trans hc1)
        clear hc1 a0 a1 a2 a3 hchg
        go_wp2_with fail
        refine (alive_any _).mono ?_
        rintro e w2 ⟨rfl, hc2⟩
        go_wp2
        go_ret
        exact ⟨rfl, hC1.out.trans hc2⟩
      | some u =>
        have hr := tok_read hp (At.self u) (by unfold isDig; omega)
        obtain ⟨kk, rfl⟩ : ∃ kk : Nat, kd = kk := ⟨kd.toNat, by omega⟩
        obtain ⟨mm, rfl⟩ : ∃ mm : Nat, nn = mm := ⟨nn.toNat, by omega⟩
        have htl : (tl : Int) ≤ 100 := by
          unfold printS at hp
          rw [if_neg (by omega)] at hp
          split at hp
          · split at hp
            · rename_i h; have h := h.2; unfold rightB at h; have := of_decide_eq_true h; have := hxl.out; omega
            · cases hp
          · split at hp
            · cases hp
            · have := hxl.out; omega
        have hus := printS_size hp
        have htr2 := hid (fun (z : ByteArray) (j : Nat) (hz : z = (s ++ blankS) ++ blanksS j) => by
          have := TextRun.tok ((htr.out.blank).blanks j) hp
          rw [← hz, Int.toNat_natCast, Int.toNat_natCast] at this
          exact this)
        have h2 := hid (fun w h => by have := refPrint_any _ kk at_ mm tA tl tc xs w h hxl.out; rw [printV_some _ _ _ _ hp] at this; exact this : ∀ w, ClsRow (fun _ => True) w tA tl tc xs → Calls Try.prog 17 #[.agg #[.int .i64 kk, .int .i64 at_, .int .i64 mm, .slice tA tl tc]] w fun e w' => e = .returned (.tuple #[.string u, .bool true]) ∧ Chg Nothing w w')
        have htl' : ¬ (100 : Int) < (tl : Int) := by omega
        have hxl0 := hid (show tl ≤ 100 from by omega)
        clear hr
        replace hp := hid hp
        go_wp2_with fail
        refine (h2.out _ (hTr.out _ (hchg.alloc _))).mono ?_
        rintro e w1 ⟨rfl, hc1⟩
        have hB1 := hid (hB0.out.chg hc1 id)
        have hO1 := hid (own_chg hown.out (((Chg.refl Nothing wr).alloc (.cells #[.int .i64 kk, .int .i64 at_, .int .i64 mm, .slice tA tl tc] 42)).trans hc1) (fun _ _ h => h))
        have hC1 := hid ((hchg.alloc (.cells #[.int .i64 kk, .int .i64 at_, .int .i64 mm, .slice tA tl tc] 42)).trans hc1)
        have hsz := hid hchg.size
        have y0 := hB1.out.cell 0 rfl
        have y1 := hB1.out.cell 1 rfl
        have y2 := hB1.out.cell 2 rfl
        have y3 := hB1.out.cell 3 rfl
        have f1 := hB1.out.free 1
        have hyl := hB1.out.lt
        have hHB := hid (HB'.out.chg hC1.out (fun _ _ _ h => h))
        clear hc1 a0 a1 a2 a3 hchg
        have hb32 : (⟨#[32]⟩ : ByteArray).size = 1 := rfl
        have hs1 : (s ++ blankS).size = s.size + 1 := by rw [ByteArray.size_append]; rfl
        replace hs1 := hid hs1
        have hOf := hid (show ¬ Of A' wr.heap.size from fun h => by have := own_of hown.out _ h; omega)
        clear hown
        rcases Nat.lt_or_ge k m with hkm | hkm
        · have hkm' : (k : Int) < (m : Int) := by omega
          obtain ⟨g2, o2, rfl, -, -, b0⟩ := hHB.out.at_ hkm
          have hxb := hbs'.out (bs.getD k 0) (by
            have : k < bs.length := by rw [HB'.out.2.2.2.1]; exact hkm
            simp [this])
          generalize bs.getD k 0 = x at b0 hxb
          obtain ⟨r, hrr, hr3⟩ := low_bits x
          go_wp2_with fail
          go_loop [5, 55] (fun sv iv => RwIn (s ++ blankS) r sv iv) (fun _ iv => r - (intOf iv).toNat)
          case atStart => exact ⟨0, Nat.zero_le _, rfl, _, rfl, hid (ByteArray.append_empty).symm, rfl⟩
          case round =>
            obtain ⟨j, hj, rfl, z, rfl, hz, hzl⟩ := hrel
            rw [hs1.out] at hzl
            rcases Nat.lt_or_ge j r with hjr | hjr
            · have hjr' : (j : Int) < (r : Int) := by omega
              have hz1 := hid (show z ++ blankS = (s ++ blankS) ++ blanksS (j + 1) from by unfold blanksS; rw [← ByteArray.append_assoc, hz.out])
              have hzs : z.size ≤ k * 2000010 + 4 := by omega
              replace hzl := hid hzl
              go_wp2
              go_round
              case rel => exact ⟨j + 1, hjr, by go_num, _, rfl, hz1, by rw [hs1.out, ByteArray.size_append]; have : blankS.size = 1 := rfl; have := hzl.out; omega⟩
              case measure => simp [intOf]; omega
            · have hd : decide ((j : Int) < (r : Int)) = false := decide_eq_false (by omega)
              have hzs : z.size ≤ k * 2000010 + 4 := by omega
              replace hzl := hid hzl
              clear b0 hrr
              have hzz := hid (htr2.out z j hz.out)
              have hC2 := hid (hC1.out.setNew (g := wr.heap.size) hsz.out 1 (.int .i64 (z.size : Int)))
              have hO2 := hid (own_chg (hO1.out) ((Chg.refl (One wr.heap.size) w1).setOne 1 (.int .i64 (z.size : Int))) (fun q hq h => by have h' : q = wr.heap.size := h; exact hOf.out (h' ▸ hq)))
              go_wp2_with (at_builtin; (refine append_cells (w := w1.setCell ⟨wr.heap.size, 1, none⟩ (.int .i64 (z.size : Int))) rfl _ _ 27 rfl w.heap.size 42 (.agg #[.int .i64 0, .int .i64 0, .int .i64 0, .slice none 0 0]) 4 48 Try.underlying27 infoTk rfl (by decide) A' c' k _ rfl hO2.out [.int .i64 (kk : Int), .int .i64 (z.size : Int), .int .i64 (mm : Int), .slice tA tl tc] (by simp [World.setCell]; rfl) rfl (tpL_one ⟨⟨kk, z.size, mm, xs⟩, tA, tl, tc⟩) ?_ ?_ ?_ ?_))
              · omega
              · omega
              · have := hsz.out; have := hyl; simp [World.setCell]; omega
              intro A2 c2 w6 hown6 hc6 hA6
              have hown7 := hid hown6
              have hC7 := hid (hC2.out.then hc6 (fun q hq h => by have := own_of hO2.out _ h; omega))
              clear hown6 hc6 hA6 y0 y1 y2 y3 f1 hyl
              go_wp2
              go_roundw
              case rel =>
                refine ⟨k + 1, _, A2, c2, ps ++ [⟨⟨kk, z.size, mm, xs⟩, tA, tl, tc⟩], hkn, by go_num, rfl, rfl, hid (by rw [List.flatMap_append]; simpa [tpL] using hown7.out), hid (by rw [List.map_append]; exact hzz.out), hid (fun p hp => ?_), hid (by rw [List.length_append, hpl.out]; rfl), by rw [ByteArray.size_append]; first | omega | (rw [ByteArray.size_append]; have : (⟨#[32]⟩ : ByteArray).size = 1 := rfl; omega), hC7.out⟩
                rw [List.mem_append, List.mem_singleton] at hp
                rcases hp with hp | rfl
                · exact hps.out p hp
                · exact ⟨⟨hTr.out w (Chg.refl _ _), hxl.out⟩, hxl0.out⟩
              case measure => simp [intOf]; omega
        · have hd : decide ((k : Int) < (m : Int)) = false := decide_eq_false (by omega)
          have hz := hid (show s ++ ⟨#[32]⟩ = (s ++ blankS) ++ blanksS 0 from (ByteArray.append_empty).symm)
          have hzz := hid (by have h := htr2.out (s ++ ⟨#[32]⟩) 0 hz.out; rw [show (s ++ ⟨#[32]⟩ : ByteArray).size = s.size + 1 from by rw [ByteArray.size_append]; rfl] at h; exact h)
          have hC2 := hid (hC1.out.setNew (g := wr.heap.size) hsz.out 1 (.int .i64 ((s.size : Int) + 1)))
          have hO2 := hid (own_chg (hO1.out) ((Chg.refl (One wr.heap.size) w1).setOne 1 (.int .i64 ((s.size : Int) + 1))) (fun q hq h => by have h' : q = wr.heap.size := h; exact hOf.out (h' ▸ hq)))
          go_wp2_with (at_builtin; (refine append_cells (w := w1.setCell ⟨wr.heap.size, 1, none⟩ (.int .i64 ((s.size : Int) + 1))) rfl _ _ 27 rfl w.heap.size 42 (.agg #[.int .i64 0, .int .i64 0, .int .i64 0, .slice none 0 0]) 4 48 Try.underlying27 infoTk rfl (by decide) A' c' k _ rfl hO2.out [.int .i64 (kk : Int), .int .i64 ((s.size : Int) + 1), .int .i64 (mm : Int), .slice tA tl tc] (by simp [World.setCell]; rfl) rfl (tpL_one ⟨⟨kk, (s.size + 1), mm, xs⟩, tA, tl, tc⟩) ?_ ?_ ?_ ?_))
          · omega
          · omega
          · have := hsz.out; have := hyl; simp [World.setCell]; omega
          intro A2 c2 w6 hown6 hc6 hA6
          have hown7 := hid hown6
          have hC7 := hid (hC2.out.then hc6 (fun q hq h => by have := own_of hO2.out _ h; omega))
          clear hown6 hc6 hA6 y0 y1 y2 y3 f1 hyl
          go_wp2
          go_roundw
          case rel =>
            refine ⟨k + 1, _, A2, c2, ps ++ [⟨⟨kk, (s.size + 1), mm, xs⟩, tA, tl, tc⟩], hkn, by go_num, rfl, rfl, hid (by rw [List.flatMap_append]; simpa [tpL] using hown7.out), hid (by rw [List.map_append]; exact hzz.out), hid (fun p hp => ?_), hid (by rw [List.length_append, hpl.out]; rfl), by rw [ByteArray.size_append]; first | omega | (rw [ByteArray.size_append]; have : (⟨#[32]⟩ : ByteArray).size = 1 := rfl; omega), hC7.out⟩
            rw [List.mem_append, List.mem_singleton] at hp
            rcases hp with hp | rfl
            · exact hps.out p hp
            · exact ⟨⟨hTr.out w (Chg.refl _ _), hxl.out⟩, hxl0.out⟩
          case measure => simp [intOf]; omega
    · have hd : decide ((k : Int) < (n : Int)) = false := decide_eq_false (by omega)
      have hkn' : k = n := by omega
      subst hkn'
      have hss2 : s.size ≤ 60000300 := by omega
      by_cases hbig : 1000 < s.size
      · have hbi : (1000 : Int) < (s.size : Int) := by omega
        go_wp2_with fail
        refine (alive_any _).mono ?_
        rintro e w2 ⟨rfl, hc2⟩
        go_wp2
        go_ret
        exact ⟨rfl, hchg.trans hc2⟩
      · have hbi : ¬ (1000 : Int) < (s.size : Int) := by omega
        have hL := hid (htr.out.lex (by omega))
        have hC0 := hid hchg
        have hW := hid (⟨hpl.out, (RowAt.of_own hown.out).mono (fun _ _ _ => trivial), fun p hp => ⟨((hps.out p hp).1.row).chg hchg (fun _ _ _ h => h), (hps.out p hp).1.len⟩⟩ : TRead (fun _ => True) wr A' k c' ps)
        have h64 := hid (show ∀ p ∈ ps, p.l ≤ 9223372036854775000 from fun p hp => by have := (hps.out p hp).2; omega)
        clear hown htr hps hchg
        go_wp2_with fail
        refine (lex_any s _ hL.out _ (by omega)).mono ?_
        rintro e w2 ⟨A1, n1, c1, qs, rfl, hT, hlq, -, hc2⟩
        have hqs := hlq _ _ rfl
        simp only [Rd.at_, Rd.no]
        have hn1 : n1 = k := by have h1 := hT.len; have h2 := congrArg List.length hqs; simp only [List.length_map] at h2; have := hpl.out; omega
        have hTR := hid (hT.read.top)
        have hC2 := hid (hC0.out.trans hc2)
        have hW2 := hid (hW.out.chg hc2 (fun _ _ _ h => h))
        have h64q := hid (show ∀ p ∈ qs, p.l ≤ 9223372036854775000 from fun p hp => by
          have h1 := (hT.els p hp).len
          have h2 : p.t ∈ qs.map TP.t := List.mem_map_of_mem hp
          rw [hqs] at h2
          obtain ⟨q, hq, e⟩ := List.mem_map.1 h2
          have h3 := (hW.out.els q hq).len
          have h4 := h64.out q hq
          rw [← e] at h1; omega)
        have hqsh := hid hqs
        subst hn1
        clear hc2 hT hlq hqs
        go_wp2_with fail
        refine (alive_any _).mono ?_
        rintro e w3 ⟨rfl, hc3⟩
        have hTR3 := hid (hTR.out.chg hc3 (fun _ _ _ h => h))
        have hW3 := hid (hW2.out.chg hc3 (fun _ _ _ h => h))
        have hC3 := hid (hC2.out.trans hc3)
        clear hc3
        go_wp2_with fail
        refine (olds_any (fun _ => True) A1 n1 c1 qs _ hTR3.out (by omega)).mono ?_
        rintro e w4 ⟨D, dd, rfl, hO, hc4⟩
        have hO4 := hid hO.top
        have hW4 := hid (hW3.out.chg hc4 (fun _ _ _ h => h))
        have hC4 := hid (hC3.out.trans hc4)
        clear hc4 hO
        go_wp2_with fail
        refine (refSame_yes (fun _ => True) D n1 dd qs A' c' ps _ hO4.out hW4.out hqsh.out (by omega) h64q.out).mono ?_
        rintro e w5 ⟨rfl, hc5⟩
        go_wp2
        go_ret
        exact ⟨rfl, hC4.out.trans hc5⟩
end Go.Proofs.Ytpndjehiacmngaa
