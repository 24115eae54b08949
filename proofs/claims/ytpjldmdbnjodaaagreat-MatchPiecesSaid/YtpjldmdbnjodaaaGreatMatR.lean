/- Layer 17: the walk of MatchPieces. -/
import Derived.Test.YtpjldmdbnjodaaaGreatMatQ
import Derived.Test.YtpjldmdbnjodaaaGreatOpenJ
import Derived.Deep.RegionHeld3
namespace Go.Proofs.YtpjldmdbnjodaaaGreat
open Go.RowKit
set_option linter.unusedVariables false
set_option linter.unusedSimpArgs false
def pB (fr l mn : Nat) (x : Int) : Bool := decide ((fr : Int) ≤ x) && decide (x + (l : Int) ≤ (fr : Int) + (mn : Int))
def wantL (fr l mn : Nat) (L : List Int) : List Int := (L.filter (pB fr l mn)).map fun x => x - (fr : Int)
theorem wantL_yes {fr l mn : Nat} {L : List Int} {k : Nat} (hk : k < L.length) (h : pB fr l mn (L.getD k 0) = true) : wantL fr l mn (L.take (k + 1)) = wantL fr l mn (L.take k) ++ [L.getD k 0 - (fr : Int)] := by
  have hg : L[k]? = some (L.getD k 0) := by rw [List.getD_eq_getElem?_getD, List.getElem?_eq_getElem hk]; rfl
  unfold wantL
  rw [List.take_add_one, hg, List.filter_append, List.map_append, Option.toList_some, List.filter_cons_of_pos h]
  rfl
theorem wantL_no {fr l mn : Nat} {L : List Int} {k : Nat} (hk : k < L.length) (h : ¬ pB fr l mn (L.getD k 0) = true) : wantL fr l mn (L.take (k + 1)) = wantL fr l mn (L.take k) := by
  have hg : L[k]? = some (L.getD k 0) := by rw [List.getD_eq_getElem?_getD, List.getElem?_eq_getElem hk]; rfl
  unfold wantL
  rw [List.take_add_one, hg, List.filter_append, List.map_append, Option.toList_some, List.filter_cons_of_neg h]
  simp
theorem wantL_len (fr l mn : Nat) (L : List Int) : (wantL fr l mn L).length ≤ L.length := by
  unfold wantL; rw [List.length_map]; exact List.length_filter_le _ _
theorem pieces (N fr M : Nat) (a b : Nat → Bool) (p : Int → Bool) (h0 : 0 < M → fr + M ≤ N) (hp1 : ∀ i : Nat, i < fr → p (i : Int) = false) (hp2 : ∀ i : Nat, i < M → p ((fr + i : Nat) : Int) = true ∧ a (fr + i) = b i) (hp3 : ∀ i : Nat, M ≤ i → p ((fr + i : Nat) : Int) = false) :
    ((((List.range N).filter a).map (fun i : Nat => (i : Int))).filter p).map (fun x => x - (fr : Int)) = ((List.range M).filter b).map fun i : Nat => (i : Int) := by
  rcases Nat.lt_or_ge fr N with hN | hN
  · obtain ⟨r, hr⟩ : ∃ r, N = fr + (M + r) := ⟨N - fr - M, by rcases Nat.eq_zero_or_pos M with h | h; omega; have := h0 h; omega⟩
    subst hr
    rw [List.range_add, List.range_add (n := M)]
    simp only [List.filter_append, List.map_append, List.map_map]
    have z1 : (((List.range fr).filter a).map (fun i : Nat => (i : Int))).filter p = [] := by
      rw [List.filter_eq_nil_iff]
      intro x hx
      obtain ⟨i, hi, rfl⟩ := List.mem_map.1 hx
      have := (List.mem_filter.1 hi).1
      rw [hp1 i (by simpa using this)]
      decide
    have z3 : ((((List.range r).map ((fun x => fr + x) ∘ fun x => M + x)).filter a).map (fun i : Nat => (i : Int))).filter p = [] := by
      rw [List.filter_eq_nil_iff]
      intro x hx
      obtain ⟨i, hi, rfl⟩ := List.mem_map.1 hx
      have h2 := (List.mem_filter.1 hi).1
      obtain ⟨q, -, rfl⟩ := List.mem_map.1 h2
      have := hp3 (M + q) (by omega)
      simp only [Function.comp]
      rw [this]
      decide
    rw [z1, z3]
    simp only [List.map_nil, List.nil_append, List.append_nil]
    rw [List.filter_map, List.filter_map, List.filter_map]
    simp only [List.map_map]
    rw [List.filter_filter]
    have z2 : (List.range M).filter (fun x => ((p ∘ fun i : Nat => (i : Int)) ∘ fun x => fr + x) x && (a ∘ fun x => fr + x) x) = (List.range M).filter b := by
      refine List.filter_congr fun i hi => ?_
      obtain ⟨h1, h2⟩ := hp2 i (by simpa using hi)
      simp only [Function.comp]
      rw [h1, h2]
      rfl
    rw [z2]
    refine List.map_congr_left fun i hi => ?_
    simp only [Function.comp]
    omega
  · have hM : M = 0 := by rcases Nat.eq_zero_or_pos M with h | h; exact h; have := h0 h; omega
    subst hM
    have z1 : (((List.range N).filter a).map (fun i : Nat => (i : Int))).filter p = [] := by
      rw [List.filter_eq_nil_iff]
      intro x hx
      obtain ⟨i, hi, rfl⟩ := List.mem_map.1 hx
      have := (List.mem_filter.1 hi).1
      rw [hp1 i (by have : i < N := by simpa using this
                    omega)]
      decide
    rw [z1]
    rfl
theorem miss_piece (xs : List Cls) (s : ByteArray) (fr mn i : Nat) (h : fr + mn ≤ s.size) (hi : i + xs.length ≤ mn) : missN xs (s.extract fr (fr + mn)) i = missN xs s (fr + i) := by
  unfold missN
  refine sumN_congr fun j hj => ?_
  have : (s.extract fr (fr + mn)).data[i + j]? = s.data[fr + i + j]? := by
    rw [ByteArray.data_extract, Array.getElem?_extract]
    rw [if_pos (by show i + j < min (fr + mn) s.size - fr; omega)]
    congr 1
    omega
  rw [this]
theorem piece_law {xs : List Cls} {K : Int} {s : ByteArray} {fr mn l : Nat} (hr : rightB xs K = true) (hl : xs.length = l) (h : fr + mn ≤ s.size) : wantL fr l mn (findM xs K s) = findM xs K (s.extract fr (fr + mn)) := by
  have hz : (s.extract fr (fr + mn)).size = mn := by rw [ByteArray.size_extract]; omega
  have h1 := (right_len hr).1
  unfold findM
  rw [sums_right hr hl, sums_right hr hl, hz]
  unfold wantL fewTo
  refine pieces (s.size + 1 - l) fr (mn + 1 - l) _ _ (pB fr l mn) (fun h0 => by omega) (fun i hi => ?_) (fun i hi => ?_) (fun i hi => ?_)
  · unfold pB
    rw [decide_eq_false (show ¬ (fr : Int) ≤ (i : Int) by omega)]
    rfl
  · refine ⟨?_, ?_⟩
    · unfold pB
      rw [decide_eq_true (show (fr : Int) ≤ ((fr + i : Nat) : Int) by omega), decide_eq_true (show ((fr + i : Nat) : Int) + (l : Int) ≤ (fr : Int) + (mn : Int) by omega)]
      rfl
    · simp only [miss_piece xs s fr mn i h (by omega)]
  · unfold pB
    rw [decide_eq_false (show ¬ ((fr + i : Nat) : Int) + (l : Int) ≤ (fr : Int) + (mn : Int) by omega)]
    simp
theorem few_bound {xs : List Cls} {K : Int} {s : ByteArray} {N : Nat} {k : Nat} (hk : k < (fewTo xs K s N).length) : 0 ≤ (fewTo xs K s N).getD k 0 ∧ (fewTo xs K s N).getD k 0 < N := by
  have hm : (fewTo xs K s N).getD k 0 ∈ fewTo xs K s N := by
    rw [List.getD_eq_getElem?_getD, List.getElem?_eq_getElem hk]; exact List.getElem_mem _
  generalize (fewTo xs K s N).getD k 0 = x at hm
  unfold fewTo at hm
  obtain ⟨i, hi, rfl⟩ := List.mem_map.1 hm
  have : i < N := by simpa using (List.mem_filter.1 hi).1
  omega
def PcInv (w7 : World) (fr l mn : Nat) (L : List Int) (ov iv : Value) (wr : World) : Prop := ∃ (k m : Nat) (A : Option Addr) (c : Nat), k ≤ L.length ∧ m ≤ k ∧ iv = .int .i64 k ∧ ov = .slice A m c ∧ IRow wr w7.heap.size A m c (wantL fr l mn (L.take k)) ∧ Chg Nothing w7 wr
set_option maxHeartbeats 16000000 in
set_option maxRecDepth 100000 in
theorem MatchPieces_walk (A : Option Addr) (l c : Nat) (xs : List Cls) (K : Int) (s : ByteArray) (za zb size : Int) (w : World) (H : LmRow w A l c xs) (hl : xs.length = l) (hf : l * 32 ≤ 140737488351232) (hK : -9223372036854775808 ≤ K ∧ K ≤ 9223372036854775807) (hs : s.size ≤ 140737488351232) (hz : (-9223372036854775808 ≤ za ∧ za ≤ 9223372036854775807) ∧ (-9223372036854775808 ≤ zb ∧ zb ≤ 9223372036854775807) ∧ -9223372036854775808 ≤ size ∧ size ≤ 9223372036854775807) :
    Calls Tryz.prog 8 #[.agg #[.slice A l c, .int .i64 K], .string s, .agg #[.int .i64 za, .int .i64 zb, .int .i64 size]] w fun e w' => e = .returned (.bool true) ∧ Chg Nothing w w' := by
  have hFw := hid (fun w => few17_any A l c K s w (by omega) (by omega))
  have hw0 := hid (((Chg.refl Nothing w).alloc (.cells #[.slice A l c, .int .i64 K] 24)).alloc (.cells #[.int .i64 za, .int .i64 zb, .int .i64 size] 42))
  have hX := hid ((Blk.new w #[.slice A l c, .int .i64 K] 24).alloc (.cells #[.int .i64 za, .int .i64 zb, .int .i64 size] 42))
  have hU := Blk.new (w.alloc (.cells #[.slice A l c, .int .i64 K] 24)) #[.int .i64 za, .int .i64 zb, .int .i64 size] 42
  rw [World.size_alloc] at hU
  replace hU := hid hU
  have hHH := hid (fun (w' : World) (hc : Chg Nothing w w') => H.calm hc)
  have hlh := hid hl
  have hle := H.le
  have hmx := H.max
  have hC := hid hw0.out
  clear H hl
  by_cases hfew : (decide (l ≤ 100) && decide (s.size ≤ 300)) = true
  · rw [hfew] at hFw
    simp only [Bool.and_eq_true, decide_eq_true_eq] at hfew
    obtain ⟨hl1, hs1⟩ := hfew
    have hsI : (s.size : Int) ≤ 300 := by omega
    have hwsub : IntKind.i64.wrap ((s.size : Int) - za) = (s.size : Int) - za ∨ za < 0 ∨ (s.size : Int) < za := by by_cases h : 0 ≤ za ∧ za ≤ (s.size : Int); exact .inl (by rw [IntKind.wrap_i64]; omega); exact .inr (by omega)
    by_cases h1 : za < 0
    · clear hwsub
      have f1 : decide (za < 0) = true := decide_eq_true (by omega)
      have x0 := hX.out.cell 0 (v := .slice A l c) rfl
      have x1 := hX.out.cell 1 (v := .int .i64 K) rfl
      have u0 := hU.out.cell 0 (v := .int .i64 za) rfl
      have u1 := hU.out.cell 1 (v := .int .i64 zb) rfl
      have u2 := hU.out.cell 2 (v := .int .i64 size) rfl
      go_enter Tryz.func8, Tryz.ntmps8
      go_wp2_with fail
      refine (hFw.out _).mono ?_
      rintro e w5 ⟨rfl, hc5⟩
      replace hX := hid (hX.out.chg hc5 id)
      replace hU := hid (hU.out.chg hc5 id)
      replace hC := hid (hC.out.trans hc5)
      clear hc5 x0 x1 u0 u1 u2
      have x0 := hX.out.cell 0 (v := .slice A l c) rfl
      have x1 := hX.out.cell 1 (v := .int .i64 K) rfl
      have u0 := hU.out.cell 0 (v := .int .i64 za) rfl
      have u1 := hU.out.cell 1 (v := .int .i64 zb) rfl
      have u2 := hU.out.cell 2 (v := .int .i64 size) rfl
      go_wp2_with fail
      refine (alive17 _).mono ?_
      rintro e w6 ⟨rfl, hc6⟩
      replace hX := hid (hX.out.chg hc6 id)
      replace hU := hid (hU.out.chg hc6 id)
      replace hC := hid (hC.out.trans hc6)
      clear hc6 x0 x1 u0 u1 u2
      have x0 := hX.out.cell 0 (v := .slice A l c) rfl
      have x1 := hX.out.cell 1 (v := .int .i64 K) rfl
      have u0 := hU.out.cell 0 (v := .int .i64 za) rfl
      have u1 := hU.out.cell 1 (v := .int .i64 zb) rfl
      have u2 := hU.out.cell 2 (v := .int .i64 size) rfl
      go_wp2
      go_ret
      exact ⟨rfl, hC.out⟩
    by_cases h2 : (s.size : Int) < za
    · clear hwsub
      have f1 : decide (za < 0) = false := decide_eq_false (by omega)
      have f2 : decide ((s.size : Int) < za) = true := decide_eq_true (by omega)
      have x0 := hX.out.cell 0 (v := .slice A l c) rfl
      have x1 := hX.out.cell 1 (v := .int .i64 K) rfl
      have u0 := hU.out.cell 0 (v := .int .i64 za) rfl
      have u1 := hU.out.cell 1 (v := .int .i64 zb) rfl
      have u2 := hU.out.cell 2 (v := .int .i64 size) rfl
      go_enter Tryz.func8, Tryz.ntmps8
      go_wp2_with fail
      refine (hFw.out _).mono ?_
      rintro e w5 ⟨rfl, hc5⟩
      replace hX := hid (hX.out.chg hc5 id)
      replace hU := hid (hU.out.chg hc5 id)
      replace hC := hid (hC.out.trans hc5)
      clear hc5 x0 x1 u0 u1 u2
      have x0 := hX.out.cell 0 (v := .slice A l c) rfl
      have x1 := hX.out.cell 1 (v := .int .i64 K) rfl
      have u0 := hU.out.cell 0 (v := .int .i64 za) rfl
      have u1 := hU.out.cell 1 (v := .int .i64 zb) rfl
      have u2 := hU.out.cell 2 (v := .int .i64 size) rfl
      go_wp2_with fail
      refine (alive17 _).mono ?_
      rintro e w6 ⟨rfl, hc6⟩
      replace hX := hid (hX.out.chg hc6 id)
      replace hU := hid (hU.out.chg hc6 id)
      replace hC := hid (hC.out.trans hc6)
      clear hc6 x0 x1 u0 u1 u2
      have x0 := hX.out.cell 0 (v := .slice A l c) rfl
      have x1 := hX.out.cell 1 (v := .int .i64 K) rfl
      have u0 := hU.out.cell 0 (v := .int .i64 za) rfl
      have u1 := hU.out.cell 1 (v := .int .i64 zb) rfl
      have u2 := hU.out.cell 2 (v := .int .i64 size) rfl
      go_wp2
      go_ret
      exact ⟨rfl, hC.out⟩
    have hw9 : IntKind.i64.wrap ((s.size : Int) - za) = (s.size : Int) - za := by rcases hwsub with h | h | h; exact h; exact absurd h h1; exact absurd h h2
    clear hwsub
    by_cases h3 : zb < 0
    · skip
      have f1 : decide (za < 0) = false := decide_eq_false (by omega)
      have f2 : decide ((s.size : Int) < za) = false := decide_eq_false (by omega)
      have f3 : decide (zb < 0) = true := decide_eq_true (by omega)
      have x0 := hX.out.cell 0 (v := .slice A l c) rfl
      have x1 := hX.out.cell 1 (v := .int .i64 K) rfl
      have u0 := hU.out.cell 0 (v := .int .i64 za) rfl
      have u1 := hU.out.cell 1 (v := .int .i64 zb) rfl
      have u2 := hU.out.cell 2 (v := .int .i64 size) rfl
      go_enter Tryz.func8, Tryz.ntmps8
      go_wp2_with fail
      refine (hFw.out _).mono ?_
      rintro e w5 ⟨rfl, hc5⟩
      replace hX := hid (hX.out.chg hc5 id)
      replace hU := hid (hU.out.chg hc5 id)
      replace hC := hid (hC.out.trans hc5)
      clear hc5 x0 x1 u0 u1 u2
      have x0 := hX.out.cell 0 (v := .slice A l c) rfl
      have x1 := hX.out.cell 1 (v := .int .i64 K) rfl
      have u0 := hU.out.cell 0 (v := .int .i64 za) rfl
      have u1 := hU.out.cell 1 (v := .int .i64 zb) rfl
      have u2 := hU.out.cell 2 (v := .int .i64 size) rfl
      go_wp2_with fail
      refine (alive17 _).mono ?_
      rintro e w6 ⟨rfl, hc6⟩
      replace hX := hid (hX.out.chg hc6 id)
      replace hU := hid (hU.out.chg hc6 id)
      replace hC := hid (hC.out.trans hc6)
      clear hc6 x0 x1 u0 u1 u2
      have x0 := hX.out.cell 0 (v := .slice A l c) rfl
      have x1 := hX.out.cell 1 (v := .int .i64 K) rfl
      have u0 := hU.out.cell 0 (v := .int .i64 za) rfl
      have u1 := hU.out.cell 1 (v := .int .i64 zb) rfl
      have u2 := hU.out.cell 2 (v := .int .i64 size) rfl
      go_wp2
      go_ret
      exact ⟨rfl, hC.out⟩
    by_cases h4 : (s.size : Int) - za < zb
    · skip
      have f1 : decide (za < 0) = false := decide_eq_false (by omega)
      have f2 : decide ((s.size : Int) < za) = false := decide_eq_false (by omega)
      have f3 : decide (zb < 0) = false := decide_eq_false (by omega)
      have f4 : decide ((s.size : Int) - za < zb) = true := decide_eq_true (by omega)
      have x0 := hX.out.cell 0 (v := .slice A l c) rfl
      have x1 := hX.out.cell 1 (v := .int .i64 K) rfl
      have u0 := hU.out.cell 0 (v := .int .i64 za) rfl
      have u1 := hU.out.cell 1 (v := .int .i64 zb) rfl
      have u2 := hU.out.cell 2 (v := .int .i64 size) rfl
      go_enter Tryz.func8, Tryz.ntmps8
      go_wp2_with fail
      refine (hFw.out _).mono ?_
      rintro e w5 ⟨rfl, hc5⟩
      replace hX := hid (hX.out.chg hc5 id)
      replace hU := hid (hU.out.chg hc5 id)
      replace hC := hid (hC.out.trans hc5)
      clear hc5 x0 x1 u0 u1 u2
      have x0 := hX.out.cell 0 (v := .slice A l c) rfl
      have x1 := hX.out.cell 1 (v := .int .i64 K) rfl
      have u0 := hU.out.cell 0 (v := .int .i64 za) rfl
      have u1 := hU.out.cell 1 (v := .int .i64 zb) rfl
      have u2 := hU.out.cell 2 (v := .int .i64 size) rfl
      go_wp2_with fail
      refine (alive17 _).mono ?_
      rintro e w6 ⟨rfl, hc6⟩
      replace hX := hid (hX.out.chg hc6 id)
      replace hU := hid (hU.out.chg hc6 id)
      replace hC := hid (hC.out.trans hc6)
      clear hc6 x0 x1 u0 u1 u2
      have x0 := hX.out.cell 0 (v := .slice A l c) rfl
      have x1 := hX.out.cell 1 (v := .int .i64 K) rfl
      have u0 := hU.out.cell 0 (v := .int .i64 za) rfl
      have u1 := hU.out.cell 1 (v := .int .i64 zb) rfl
      have u2 := hU.out.cell 2 (v := .int .i64 size) rfl
      go_wp2
      go_ret
      exact ⟨rfl, hC.out⟩
    obtain ⟨fr, rfl⟩ : ∃ fr : Nat, za = fr := ⟨za.toNat, by omega⟩
    obtain ⟨mn, rfl⟩ : ∃ mn : Nat, zb = mn := ⟨zb.toNat, by omega⟩
    have hfm : fr + mn ≤ s.size := by omega
    have f1 : decide ((fr : Int) < 0) = false := decide_eq_false (by omega)
    have f2 : decide ((s.size : Int) < (fr : Int)) = false := decide_eq_false (by omega)
    have f3 : decide ((mn : Int) < 0) = false := decide_eq_false (by omega)
    have f4 : decide ((s.size : Int) - (fr : Int) < (mn : Int)) = false := decide_eq_false (by omega)
    have r0 : (0 : Int) ≤ (fr : Int) := by omega
    have r1 : (0 : Int) ≤ (fr : Int) + (mn : Int) := by omega
    have r2 : (fr : Int) ≤ (fr : Int) + (mn : Int) := by omega
    have r3 : (fr : Int) + (mn : Int) ≤ (s.size : Int) := by omega
    have r4 : ((fr : Int) + (mn : Int)).toNat = fr + mn := by omega
    have r5 : IntKind.i64.wrap ((fr : Int) + (mn : Int)) = (fr : Int) + (mn : Int) := by rw [IntKind.wrap_i64]; omega
    clear h1 h2 h3 h4
    obtain ⟨s2, hs2⟩ : ∃ s2, s2 = s.extract fr (fr + mn) := ⟨_, rfl⟩
    have hz2 : s2.size = mn := by rw [hs2, ByteArray.size_extract]; omega
    have hP1 := hid (fun (w' : World) (hc : Chg Nothing w w') => symFlat (matchBest_any _ A l c xs K s size w' (hHH.out w' hc) (fun _ h => h) hlh.out (by omega) (by omega)))
    have hP2 := hid (fun (w' : World) (hc : Chg Nothing w w') => symFlat (matchBest_any _ A l c xs K s2 size w' (hHH.out w' hc) (fun _ h => h) hlh.out (by omega) (by omega)))
    rw [best_E] at hP1 hP2
    have hlaw := hid (fun (h : rightB xs K = true) => (show wantL fr l mn (findM xs K s) = findM xs K s2 from hs2 ▸ piece_law h hlh.out hfm))
    have hy1 := hid (fun (h : rightB xs K = true) => mF_yes (s := s) (size := size) (mE_zero.2 (choose_right (n := s.size) (size := size) h)))
    have hy2 := hid (fun (h : rightB xs K = true) => mF_yes (s := s2) (size := size) (mE_zero.2 (choose_right (n := s2.size) (size := size) h)))
    rw [hs2] at hP2
    generalize mN xs K (chooseM xs K s.size size) s.size size = num1 at *
    generalize mN xs K (chooseM xs K (s.extract fr (fr + mn)).size size) (s.extract fr (fr + mn)).size size = num2 at *
    cases hr : rightB xs K with
    | false =>
      rw [hr] at hP1 hP2
      rw [if_neg (by decide)] at hP1 hP2
      clear hlaw hy1 hy2 hs2 hz2
      have x0 := hX.out.cell 0 (v := .slice A l c) rfl
      have x1 := hX.out.cell 1 (v := .int .i64 K) rfl
      have u0 := hU.out.cell 0 (v := .int .i64 (fr : Nat)) rfl
      have u1 := hU.out.cell 1 (v := .int .i64 (mn : Nat)) rfl
      have u2 := hU.out.cell 2 (v := .int .i64 size) rfl
      go_enter Tryz.func8, Tryz.ntmps8
      go_wp2_with fail
      refine (hFw.out _).mono ?_
      rintro e w5 ⟨rfl, hc5⟩
      replace hX := hid (hX.out.chg hc5 id)
      replace hU := hid (hU.out.chg hc5 id)
      replace hC := hid (hC.out.trans hc5)
      clear hc5 x0 x1 u0 u1 u2
      have x0 := hX.out.cell 0 (v := .slice A l c) rfl
      have x1 := hX.out.cell 1 (v := .int .i64 K) rfl
      have u0 := hU.out.cell 0 (v := .int .i64 (fr : Nat)) rfl
      have u1 := hU.out.cell 1 (v := .int .i64 (mn : Nat)) rfl
      have u2 := hU.out.cell 2 (v := .int .i64 size) rfl
      go_wp2_with fail
      refine (hP1.out _ hC.out).mono ?_
      rintro e w6 ⟨A6, c6, rfl, hR6, hc6⟩
      have hO1 := hid (hR6.els.mono (G := fun _ => True) (fun _ _ _ => trivial))
      clear hR6
      replace hX := hid (hX.out.chg hc6 id)
      replace hU := hid (hU.out.chg hc6 id)
      replace hC := hid (hC.out.trans hc6)
      clear hc6 x0 x1 u0 u1 u2
      have x0 := hX.out.cell 0 (v := .slice A l c) rfl
      have x1 := hX.out.cell 1 (v := .int .i64 K) rfl
      have u0 := hU.out.cell 0 (v := .int .i64 (fr : Nat)) rfl
      have u1 := hU.out.cell 1 (v := .int .i64 (mn : Nat)) rfl
      have u2 := hU.out.cell 2 (v := .int .i64 size) rfl
      have hXa := hid hX.out
      have hUa := hid hU.out
      have hS := hid (fun (w' : World) (hc : Chg Nothing w6 w') => (⟨(hXa.out.chg hc id).cell 0 rfl, (hXa.out.chg hc id).cell 1 rfl, (hUa.out.chg hc id).cell 0 rfl, (hUa.out.chg hc id).cell 1 rfl, (hUa.out.chg hc id).cell 2 rfl⟩ : w'.cell? ⟨w.heap.size, 0, none⟩ = some (.slice A l c) ∧ w'.cell? ⟨w.heap.size, 1, none⟩ = some (.int .i64 K) ∧ w'.cell? ⟨w.heap.size + 1, 0, none⟩ = some (.int .i64 (fr : Nat)) ∧ w'.cell? ⟨w.heap.size + 1, 1, none⟩ = some (.int .i64 (mn : Nat)) ∧ w'.cell? ⟨w.heap.size + 1, 2, none⟩ = some (.int .i64 size)))
      have hcur := hid ((Chg.refl Nothing w6).drew)
      clear x0 x1 u0 u1 u2
      go_wp2_with fail
      go_region_held3 (fun w' => w'.cell? ⟨w.heap.size, 0, none⟩ = some (.slice A l c) ∧ w'.cell? ⟨w.heap.size, 1, none⟩ = some (.int .i64 K) ∧ w'.cell? ⟨w.heap.size + 1, 0, none⟩ = some (.int .i64 (fr : Nat)) ∧ w'.cell? ⟨w.heap.size + 1, 1, none⟩ = some (.int .i64 (mn : Nat)) ∧ w'.cell? ⟨w.heap.size + 1, 2, none⟩ = some (.int .i64 size))
        (exact hS.out _ hcur.out)
        (first | (go_at_call 16; with_reducible refine (hP2.out _ (hC.out.trans hcur.out)).mono ?_; rintro e w7 ⟨A7, c7, rfl, hR7, hc7⟩; replace hcur := hid (hcur.out.trans hc7); replace hR7 := hid hR7; replace hc7 := hid hc7))
      all_goals
        replace hX := hid (hX.out.chg hcur.out id)
        replace hU := hid (hU.out.chg hcur.out id)
        replace hC := hid (hC.out.trans hcur.out)
        clear hS hcur hR7 hc7 hXa hUa hO1
        have x0 := hX.out.cell 0 (v := .slice A l c) rfl
        have x1 := hX.out.cell 1 (v := .int .i64 K) rfl
        have u0 := hU.out.cell 0 (v := .int .i64 (fr : Nat)) rfl
        have u1 := hU.out.cell 1 (v := .int .i64 (mn : Nat)) rfl
        have u2 := hU.out.cell 2 (v := .int .i64 size) rfl
        go_wp2_with fail
        refine (alive17 _).mono ?_
        rintro e w8 ⟨rfl, hc8⟩
        replace hX := hid (hX.out.chg hc8 id)
        replace hU := hid (hU.out.chg hc8 id)
        replace hC := hid (hC.out.trans hc8)
        clear hc8 x0 x1 u0 u1 u2
        have x0 := hX.out.cell 0 (v := .slice A l c) rfl
        have x1 := hX.out.cell 1 (v := .int .i64 K) rfl
        have u0 := hU.out.cell 0 (v := .int .i64 (fr : Nat)) rfl
        have u1 := hU.out.cell 1 (v := .int .i64 (mn : Nat)) rfl
        have u2 := hU.out.cell 2 (v := .int .i64 size) rfl
        go_wp2
        go_ret
        exact ⟨rfl, hC.out⟩
    | true =>
      rw [hr] at hP1 hP2
      rw [if_pos rfl] at hP1 hP2
      rw [hy1.out hr] at hP1
      rw [← hs2, hy2.out hr, ← hlaw.out hr] at hP2
      rw [hs2] at hP2
      have hbd := hid (fun k (h : k < (findM xs K s).length) => (show 0 ≤ (findM xs K s).getD k 0 ∧ (findM xs K s).getD k 0 ≤ 400 from by
        have := few_bound (xs := xs) (K := K) (s := s) (N := sumsN xs K s.size) (k := k) h
        have h2 : sumsN xs K s.size ≤ s.size + 1 := by unfold sumsN; split <;> omega
        unfold findM
        omega))
      have hLl : (findM xs K s).length ≤ 400 := by
        have h1 := fewTo_len xs K s (sumsN xs K s.size)
        have h2 : sumsN xs K s.size ≤ s.size + 1 := by unfold sumsN; split <;> omega
        unfold findM
        omega
      generalize findM xs K s = L at hP1 hP2 hbd hLl
      clear hlaw hy1 hy2 hs2 hz2
      have x0 := hX.out.cell 0 (v := .slice A l c) rfl
      have x1 := hX.out.cell 1 (v := .int .i64 K) rfl
      have u0 := hU.out.cell 0 (v := .int .i64 (fr : Nat)) rfl
      have u1 := hU.out.cell 1 (v := .int .i64 (mn : Nat)) rfl
      have u2 := hU.out.cell 2 (v := .int .i64 size) rfl
      go_enter Tryz.func8, Tryz.ntmps8
      go_wp2_with fail
      refine (hFw.out _).mono ?_
      rintro e w5 ⟨rfl, hc5⟩
      replace hX := hid (hX.out.chg hc5 id)
      replace hU := hid (hU.out.chg hc5 id)
      replace hC := hid (hC.out.trans hc5)
      clear hc5 x0 x1 u0 u1 u2
      have x0 := hX.out.cell 0 (v := .slice A l c) rfl
      have x1 := hX.out.cell 1 (v := .int .i64 K) rfl
      have u0 := hU.out.cell 0 (v := .int .i64 (fr : Nat)) rfl
      have u1 := hU.out.cell 1 (v := .int .i64 (mn : Nat)) rfl
      have u2 := hU.out.cell 2 (v := .int .i64 size) rfl
      go_wp2_with fail
      refine (hP1.out _ hC.out).mono ?_
      rintro e w6 ⟨A6, c6, rfl, hR6, hc6⟩
      have hO1 := hid (hR6.els.mono (G := fun _ => True) (fun _ _ _ => trivial))
      clear hR6
      replace hX := hid (hX.out.chg hc6 id)
      replace hU := hid (hU.out.chg hc6 id)
      replace hC := hid (hC.out.trans hc6)
      clear hc6 x0 x1 u0 u1 u2
      have x0 := hX.out.cell 0 (v := .slice A l c) rfl
      have x1 := hX.out.cell 1 (v := .int .i64 K) rfl
      have u0 := hU.out.cell 0 (v := .int .i64 (fr : Nat)) rfl
      have u1 := hU.out.cell 1 (v := .int .i64 (mn : Nat)) rfl
      have u2 := hU.out.cell 2 (v := .int .i64 size) rfl
      have hXa := hid hX.out
      have hUa := hid hU.out
      have hS := hid (fun (w' : World) (hc : Chg Nothing w6 w') => (⟨(hXa.out.chg hc id).cell 0 rfl, (hXa.out.chg hc id).cell 1 rfl, (hUa.out.chg hc id).cell 0 rfl, (hUa.out.chg hc id).cell 1 rfl, (hUa.out.chg hc id).cell 2 rfl⟩ : w'.cell? ⟨w.heap.size, 0, none⟩ = some (.slice A l c) ∧ w'.cell? ⟨w.heap.size, 1, none⟩ = some (.int .i64 K) ∧ w'.cell? ⟨w.heap.size + 1, 0, none⟩ = some (.int .i64 (fr : Nat)) ∧ w'.cell? ⟨w.heap.size + 1, 1, none⟩ = some (.int .i64 (mn : Nat)) ∧ w'.cell? ⟨w.heap.size + 1, 2, none⟩ = some (.int .i64 size)))
      have hcur := hid ((Chg.refl Nothing w6).drew)
      clear x0 x1 u0 u1 u2
      go_wp2_with fail
      go_region_held3 (fun w' => w'.cell? ⟨w.heap.size, 0, none⟩ = some (.slice A l c) ∧ w'.cell? ⟨w.heap.size, 1, none⟩ = some (.int .i64 K) ∧ w'.cell? ⟨w.heap.size + 1, 0, none⟩ = some (.int .i64 (fr : Nat)) ∧ w'.cell? ⟨w.heap.size + 1, 1, none⟩ = some (.int .i64 (mn : Nat)) ∧ w'.cell? ⟨w.heap.size + 1, 2, none⟩ = some (.int .i64 size))
        (exact hS.out _ hcur.out)
        (first | (go_at_call 16; with_reducible refine (hP2.out _ (hC.out.trans hcur.out)).mono ?_; rintro e w7 ⟨A7, c7, rfl, hR7, hc7⟩; replace hcur := hid (hcur.out.trans hc7); replace hR7 := hid hR7; replace hc7 := hid hc7))
      all_goals
        replace hX := hid (hX.out.chg hcur.out id)
        replace hU := hid (hU.out.chg hcur.out id)
        replace hC := hid (hC.out.trans hcur.out)
        replace hO1 := hid (hO1.out.chg hcur.out (fun _ _ _ h => h))
        have hO2 := hid (hR7.out.els.mono (G := fun _ => True) (fun _ _ _ => trivial))
        clear hS hcur hR7 hc7 hXa hUa
        have hl1c := hO1.out.2.1
        have hl1m := hO1.out.2.2.1
        go_wp2_with fail
        go_loopw [13, 88] (fun ov iv wr => PcInv w7 fr l mn L ov iv wr) (fun _ iv _ => L.length - (intOf iv).toNat)
        case atStart => exact ⟨0, 0, none, 0, Nat.zero_le _, Nat.zero_le _, rfl, rfl, World.ownsRow_nil _ _ _ _, Chg.refl _ _⟩
        case round =>
          obtain ⟨k, m, A1, c1, hk, hmk, rfl, rfl, hown, hchg⟩ := hrel
          have hXr := hX.out.chg hchg id
          have hUr := hU.out.chg hchg id
          have x0 := hXr.cell 0 (v := .slice A l c) rfl
          have u0 := hUr.cell 0 (v := .int .i64 (fr : Nat)) rfl
          have u1 := hUr.cell 1 (v := .int .i64 (mn : Nat)) rfl
          rcases Nat.lt_or_ge k L.length with hkn | hkn
          · obtain ⟨ga, oa, ea, -, hgla, xa⟩ := (hO1.out.chg hchg (fun _ _ _ h => h)).at_ hkn
            subst ea
            have hk0 : (0 : Int) ≤ (k : Int) := by omega
            have hkI : (k : Int) < (L.length : Int) := by omega
            have hb := hbd.out k hkn
            have hy := hid (fun h => wantL_yes (fr := fr) (l := l) (mn := mn) hkn h)
            have hno := hid (fun h => wantL_no (fr := fr) (l := l) (mn := mn) hkn h)
            obtain ⟨x, hx⟩ : ∃ x, x = L.getD k 0 := ⟨_, rfl⟩
            rw [← hx] at xa hb hy hno
            have hOw := hid hown
            have hCr := hid hchg
            have q1 : IntKind.i64.wrap (x + (l : Int)) = x + (l : Int) := by rw [IntKind.wrap_i64]; omega
            have q2 : IntKind.i64.wrap (x - (fr : Int)) = x - (fr : Int) := by rw [IntKind.wrap_i64]; omega
            replace hx := hid hx
            clear hown hchg hXr hUr
            by_cases h1 : (fr : Int) ≤ x
            · have d1 : decide ((fr : Int) ≤ x) = true := decide_eq_true h1
              by_cases h2 : x + (l : Int) ≤ (fr : Int) + (mn : Int)
              · have d2 : decide (x + (l : Int) ≤ (fr : Int) + (mn : Int)) = true := decide_eq_true h2
                have hyy := hid (hy.out (by unfold pB; rw [d1, d2]; rfl))
                go_wp2_with (at_builtin; refine append_one rfl _ _ 29 rfl w7.heap.size 3 (.int .i64 0) 8 Tryz.underlying29 infoInt rfl A1 c1 m _ rfl hOw.out (.int .i64 (x - (fr : Int))) rfl rfl ?_ ?_ ?_ ?_)
                · omega
                · omega
                · exact hCr.out.size
                intro A' c' w9 hown6 hc6 hA6
                have hO6 := hid (show IRow w9 w7.heap.size A' (m + 1) c' (wantL fr l mn (L.take (k + 1))) from by rw [hyy.out]; unfold IRow; rw [List.map_append]; exact hown6)
                have oa6 := own_of hOw.out
                have hC6 := hid (hCr.out.then hc6 (fun i hi h => by have := oa6 _ h; omega))
                clear hown6 hc6 hA6
                go_wp2
                go_roundw
                case rel => exact ⟨k + 1, m + 1, A', c', hkn, by omega, by go_num, rfl, hO6.out, hC6.out⟩
                case measure => simp [intOf]; omega
              · have d2 : decide (x + (l : Int) ≤ (fr : Int) + (mn : Int)) = false := decide_eq_false h2
                have hnn := hid (hno.out (by unfold pB; rw [d1, d2]; decide))
                go_wp2
                go_roundw
                case rel => exact ⟨k + 1, m, A1, c1, hkn, by omega, by go_num, rfl, by rw [hnn.out]; exact hOw.out, hCr.out⟩
                case measure => simp [intOf]; omega
            · have d1 : decide ((fr : Int) ≤ x) = false := decide_eq_false h1
              have hnn := hid (hno.out (by unfold pB; rw [d1]; simp))
              go_wp2
              go_roundw
              case rel => exact ⟨k + 1, m, A1, c1, hkn, by omega, by go_num, rfl, by rw [hnn.out]; exact hOw.out, hCr.out⟩
              case measure => simp [intOf]; omega
          · obtain rfl : k = L.length := by omega
            have hd : decide (((L.length : Nat) : Int) < (L.length : Int)) = false := decide_eq_false (by omega)
            rw [List.take_length] at hown
            have hm : m = (wantL fr l mn L).length := by have := hown.1; simpa using this.symm
            subst hm
            have hO3 := hid ((IRow.els hown).mono (G := fun _ => True) (fun _ _ _ => trivial))
            replace hO2 := hid (hO2.out.chg hchg (fun _ _ _ h => h))
            replace hC := hid (hC.out.trans hchg)
            clear hown hchg hXr hUr
            go_wp2_with fail
            refine (alive17 _).mono ?_
            rintro e w8 ⟨rfl, hc8⟩
            replace hO2 := hid (hO2.out.chg hc8 (fun _ _ _ h => h))
            replace hO3 := hid (hO3.out.chg hc8 (fun _ _ _ h => h))
            replace hC := hid (hC.out.trans hc8)
            clear hc8 x0 u0 u1
            go_wp2_with fail
            refine (same_intsM hO2.out hO3.out).mono ?_
            rintro e w9 ⟨rfl, hc9⟩
            replace hC := hid (hC.out.trans hc9)
            clear hc9
            go_wp2
            go_ret
            exact ⟨rfl, hC.out⟩
  · have hfb : (decide (l ≤ 100) && decide (s.size ≤ 300)) = false := by simpa using hfew
    rw [hfb] at hFw
    clear hfew
    have x0 := hX.out.cell 0 (v := .slice A l c) rfl
    have x1 := hX.out.cell 1 (v := .int .i64 K) rfl
    have u0 := hU.out.cell 0 (v := .int .i64 za) rfl
    have u1 := hU.out.cell 1 (v := .int .i64 zb) rfl
    have u2 := hU.out.cell 2 (v := .int .i64 size) rfl
    go_enter Tryz.func8, Tryz.ntmps8
    go_wp2_with fail
    refine (hFw.out _).mono ?_
    rintro e w5 ⟨rfl, hc5⟩
    replace hX := hid (hX.out.chg hc5 id)
    replace hU := hid (hU.out.chg hc5 id)
    replace hC := hid (hC.out.trans hc5)
    clear hc5 x0 x1 u0 u1 u2
    have x0 := hX.out.cell 0 (v := .slice A l c) rfl
    have x1 := hX.out.cell 1 (v := .int .i64 K) rfl
    have u0 := hU.out.cell 0 (v := .int .i64 za) rfl
    have u1 := hU.out.cell 1 (v := .int .i64 zb) rfl
    have u2 := hU.out.cell 2 (v := .int .i64 size) rfl
    go_wp2_with fail
    refine (alive17 _).mono ?_
    rintro e w6 ⟨rfl, hc6⟩
    replace hX := hid (hX.out.chg hc6 id)
    replace hU := hid (hU.out.chg hc6 id)
    replace hC := hid (hC.out.trans hc6)
    clear hc6 x0 x1 u0 u1 u2
    have x0 := hX.out.cell 0 (v := .slice A l c) rfl
    have x1 := hX.out.cell 1 (v := .int .i64 K) rfl
    have u0 := hU.out.cell 0 (v := .int .i64 za) rfl
    have u1 := hU.out.cell 1 (v := .int .i64 zb) rfl
    have u2 := hU.out.cell 2 (v := .int .i64 size) rfl
    go_wp2
    go_ret
    exact ⟨rfl, hC.out⟩
end Go.Proofs.YtpjldmdbnjodaaaGreat
