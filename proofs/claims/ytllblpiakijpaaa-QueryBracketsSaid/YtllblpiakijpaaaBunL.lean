/- Joined texts: PdA PdB PdC PdD PdE PdF PdG PdH PdI PdJ PdK. -/
import Derived.Test.YtllblpiakijpaaaBunJ
import Derived.Test.YtllblpiakijpaaaBunH
import Derived.Deep.RegionLaw
import Derived.Test.YtllblpiakijpaaaBunK
import Derived.Test.YtllblpiakijpaaaBunF
import Derived.Test.YtllblpiakijpaaaBunI
/- Layer 14: the document's parser: kind, with. -/
namespace Go.Proofs.Ytllblpiakijpaaa
open Go.RowKit
set_option linter.unusedVariables false
def kindD (ts : List Tok) (a : Nat) : Nat := match ts.drop a with
  | [] => 0
  | t :: _ => t.kind
theorem TRead.at_ {F : Nat → Prop} {w : World} {A : Option Addr} {n c : Nat} {ps : List TP} (h : TRead F w A n c ps) {a : Nat} (ha : a < n) :
    ∃ g o p r, A = some ⟨g, o, none⟩ ∧ g < w.heap.size ∧ p ∈ ps ∧ ps.drop a = p :: r ∧ w.cell? ⟨g, o + a * 4, none⟩ = some (.int .i64 p.t.kind) ∧ w.cell? ⟨g, o + a * 4 + 1, none⟩ = some (.int .i64 p.t.at_) ∧ w.cell? ⟨g, o + a * 4 + 2, none⟩ = some (.int .i64 p.t.n) ∧ w.cell? ⟨g, o + a * 4 + 3, none⟩ = some (.slice p.A p.l p.c) := by
  have hl : a < ps.length := by rw [h.len]; exact ha
  obtain ⟨g, o, e, -, hlt, c0, c1, c2, c3⟩ := rowAt_four h.row (d := tp0) tpL_len h.len ha
  have hd : ps.getD a tp0 = ps[a] := by simp [hl]
  rw [hd] at c0 c1 c2 c3
  exact ⟨g, o, ps[a], ps.drop (a + 1), e, hlt, List.getElem_mem hl, List.drop_eq_getElem_cons hl, c0, c1, c2, c3⟩
set_option maxHeartbeats 4000000 in
set_option maxRecDepth 100000 in
theorem kind_any {F : Nat → Prop} {w : World} {A : Option Addr} {n c : Nat} {qs : List TP} (a : Nat) (z : Int) (hz : z = a) (H : TRead F w A n c qs) :
    Calls Try.prog 54 #[.slice A n c, .int .i64 z] w fun e w' => e = .returned (.int .i64 (kindD (qs.map TP.t) a : Nat)) ∧ w' = w := by
  subst hz
  have hle := H.row.le
  have hmx := H.row.max
  rcases Nat.lt_or_ge a n with h | h
  · obtain ⟨g, o, p, r, rfl, hgl, -, hd, c0, -, -, -⟩ := H.at_ h
    have hk := hid (show kindD (qs.map TP.t) a = p.t.kind from by unfold kindD; rw [← List.map_drop, hd]; rfl)
    rw [hk.out]
    have h1 : ¬ ((n : Int) ≤ (a : Int)) := by omega
    have h2 : (a : Int) < (n : Int) := by omega
    have h3 : (0 : Int) ≤ (a : Int) := by omega
    clear H hd
    go_enter Try.func54, Try.ntmps54
    go_wp2
    go_ret
    exact ⟨rfl, rfl⟩
  · have hk := hid (show kindD (qs.map TP.t) a = 0 from by unfold kindD; rw [← List.map_drop, List.drop_eq_nil_of_le (by rw [H.len]; exact h)]; rfl)
    rw [hk.out]
    have h1 : (n : Int) ≤ (a : Int) := by omega
    clear H
    go_enter Try.func54, Try.ntmps54
    go_wp2
    go_ret
    exact ⟨rfl, rfl⟩
theorem NOwn.apart {S : Nat → Prop} {b base : Nat} {w w' : World} {A : Option Addr} {n c : Nat} {ps : List NP} (h : NOwn b base w A n c ps) (hc : Chg S w w') (hS : ∀ k, k < b ∨ base ≤ k → ¬ S k) : NOwn b base w' A n c ps :=
  ⟨h.len, own_chg h.own hc (fun k hk => hS k (.inr (own_of h.own k hk).1)), fun p hp => (h.els p hp).chg hc (fun k _ hk => hS k (.inl hk))⟩
set_option maxHeartbeats 4000000 in
set_option maxRecDepth 100000 in
theorem with_any {b base : Nat} {w : World} {A : Option Addr} {n c : Nat} {ps : List NP} (k m nx : Int) (bad : Bool) (hb : b ≤ w.heap.size) (H : NOwn b base w A n c ps) (hn : n ≤ 100000) :
    Calls Try.prog 92 #[.agg #[.int .i64 k, .int .i64 m, .slice none 0 0, .int .i64 0], .agg #[.slice A n c, .int .i64 nx, .bool bad]] w fun e w' => ∃ A' c', e = .returned (.agg #[.slice A' (1 + n) c', .int .i64 nx, .bool bad]) ∧ NOwn b w.heap.size w' A' (1 + n) c' (⟨⟨k, m, [], 0⟩, none, 0, 0⟩ :: ps) ∧ Chg Nothing w w' := by
  have hG0 := nown_one (b := b) (W := ((w.alloc (.cells #[.int .i64 k, .int .i64 m, .slice none 0 0, .int .i64 0] 40)).alloc (.cells #[.slice A n c, .int .i64 nx, .bool bad] 54)).alloc (.cells #[.slice none 0 0, .int .i64 0, .bool false] 54)) ⟨⟨k, m, [], 0⟩, none, 0, 0⟩ ⟨RowAt.none _ _ _, rfl⟩
  have hX0 := ((((Chg.refl Nothing w).alloc (.cells #[.int .i64 k, .int .i64 m, .slice none 0 0, .int .i64 0] 40)).alloc (.cells #[.slice A n c, .int .i64 nx, .bool bad] 54)).alloc (.cells #[.slice none 0 0, .int .i64 0, .bool false] 54)).alloc (.cells #[.int .i64 k, .int .i64 m, .slice none 0 0, .int .i64 0] 40)
  have hB1 := ((Blk.new (w.alloc (.cells #[.int .i64 k, .int .i64 m, .slice none 0 0, .int .i64 0] 40)) #[.slice A n c, .int .i64 nx, .bool bad] 54).alloc (.cells #[.slice none 0 0, .int .i64 0, .bool false] 54)).alloc (.cells #[.int .i64 k, .int .i64 m, .slice none 0 0, .int .i64 0] 40)
  have hB2 := (Blk.new ((w.alloc (.cells #[.int .i64 k, .int .i64 m, .slice none 0 0, .int .i64 0] 40)).alloc (.cells #[.slice A n c, .int .i64 nx, .bool bad] 54)) #[.slice none 0 0, .int .i64 0, .bool false] 54).alloc (.cells #[.int .i64 k, .int .i64 m, .slice none 0 0, .int .i64 0] 40)
  simp only [World.size_alloc] at hG0 hB1 hB2
  have hr := hid (H.calm hX0)
  have hG := hid hG0
  have hX := hid hX0
  have hY1 := hid hB1
  have hY2 := hid hB2
  clear hG0 hX0 hB1 hB2
  go_enter Try.func92, Try.ntmps92
  go_wp2_with (at_builtin; refine append_gen (o := ⟨some 9, _, _, _, _, _⟩) rfl _ _ 23 rfl (w.heap.size + 1 + 1 + 1) 40 (.agg #[.int .i64 0, .int .i64 0, .slice none 0 0, .int .i64 0]) 4 48 Try.underlying23 infoNd rfl (by decide) _ _ 1 _ rfl hG.out.own A n c _ rfl hr.out.row.row.len hr.out.row.row.nil hr.out.row.row.le (rowAt_news hr.out.row.row) (flat_one ndL ndL_one _) ?_ ?_ ?_ ?_)
  · unfold maxLen; omega
  · omega
  · simp only [World.size_alloc]; omega
  · intro A3 c3 w3 hown hc3; intros
    have hcB : ∀ k, k < w.heap.size + 1 + 1 + 1 → ¬ Of (some ⟨w.heap.size + 1 + 1 + 1, 0, none⟩) k := fun k hk ⟨a, e, hk'⟩ => by injection e with e; subst e; simp only at hk'; omega
    have z1 := hY1.out.chg hc3 (hcB _ (by omega))
    have z2 := hY2.out.chg hc3 (hcB _ (by omega))
    have y0 := z1.cell 0 (v := .slice A n c) rfl
    have y1 := z1.cell 1 (v := .int .i64 nx) rfl
    have y2 := z1.cell 2 (v := .bool bad) rfl
    have v0 := z1.free 0
    have u0 := z2.cell 0 (v := .slice none 0 0) rfl
    have u1 := z2.cell 1 (v := .int .i64 0) rfl
    have u2 := z2.cell 2 (v := .bool false) rfl
    have t0 := z2.free 0
    have t1 := z2.free 1
    have t2 := z2.free 2
    have hl1 := z1.lt
    have hl2 := z2.lt
    have hgn := hid (NOwn.mk (b := b) (base := w.heap.size + 1 + 1 + 1) (ps := ⟨⟨k, m, [], 0⟩, none, 0, 0⟩ :: ps) (by rw [List.length_cons, hr.out.len]; omega) hown (fun p hp => by
      rw [List.mem_cons] at hp
      rcases hp with rfl | hp
      · exact ⟨RowAt.none _ _ _, rfl⟩
      · exact (hr.out.els p hp).chg hc3 (fun k _ hk => hcB k (by unfold NB at hk; omega))))
    have hC3 := hid (hX.out.then hc3 (fun k hk h => absurd h (hcB k (by omega))))
    have hZ1 := hid z1
    have hZ2 := hid z2
    clear hown hc3 hcB z1 z2
    go_wp2
    have hcF : Chg (fun k => k = w.heap.size + 1 ∨ k = w.heap.size + 1 + 1) w3 ((((w3.setCell ⟨w.heap.size + 1, 0, none⟩ (.slice A3 (1 + n) c3)).setCell ⟨w.heap.size + 1 + 1, 0, none⟩ (.slice A3 (1 + n) c3)).setCell ⟨w.heap.size + 1 + 1, 1, none⟩ (.int .i64 nx)).setCell ⟨w.heap.size + 1 + 1, 2, none⟩ (.bool bad)) :=
      ((((Chg.refl _ w3).setCell _ (fun _ => .inl rfl) _).setCell _ (fun _ => .inr rfl) _).setCell _ (fun _ => .inr rfl) _).setCell _ (fun _ => .inr rfl) _
    have hfin := (((hZ2.out.other (p := ⟨w.heap.size + 1, 0, none⟩) (by simp) (.slice A3 (1 + n) c3)).set 0 (.slice A3 (1 + n) c3)).set 1 (.int .i64 nx)).set 2 (.bool bad)
    have r0 := hfin.cell 0 (v := .slice A3 (1 + n) c3) rfl
    have r1 := hfin.cell 1 (v := .int .i64 nx) rfl
    have r2 := hfin.cell 2 (v := .bool bad) rfl
    refine bodyPost_ret (v := .agg #[.slice A3 (1 + n) c3, .int .i64 nx, .bool bad]) ?_ rfl ⟨A3, c3, rfl, (hgn.out.apart hcF (fun k hk h => by omega)).less (by omega), hC3.out.then hcF (fun k hk h => by omega)⟩
    simp [results, Try.results92, go_sem, r0, r1, r2]
end Go.Proofs.Ytllblpiakijpaaa

/- Layer 14: the document's parser: what its parts answer; the cases of item. -/
namespace Go.Proofs.Ytllblpiakijpaaa
open Go.RowKit
set_option linter.unusedVariables false
/-- What a part of the document's parser answers. -/
def DAns (b base : Nat) (ts : List Tok) (N : Nat) (R : PR) (e : Ending) (w' : World) : Prop := ∃ A n c ps nx bad, e = .returned (.agg #[.slice A n c, .int .i64 (nx : Nat), .bool bad]) ∧ NOwn b base w' A n c ps ∧ n ≤ N ∧ nx ≤ ts.length ∧ ((bad = false ∧ R = .ok (ps.map NP.x) (ts.drop nx)) ∨ (bad = true ∧ R = .bad (ts.drop nx)))
def DCon (b fn : Nat) (one : List Tok → PR → Prop) : Prop := ∀ A n c qs a R w, b ≤ w.heap.size → TRead (NB b) w A n c qs → one ((qs.map TP.t).drop a) R → a ≤ n → n ≤ 100000 → Calls Try.prog fn #[.slice A n c, .int .i64 (a : Nat)] w fun e w' => DAns b w.heap.size (qs.map TP.t) (n - a) R e w' ∧ Chg Nothing w w'
theorem kindD_cons {ts : List Tok} {a : Nat} {t : Tok} {r : List Tok} (h : ts.drop a = t :: r) : kindD ts a = t.kind := by unfold kindD; rw [h]
theorem kindD_not {ts : List Tok} {a k : Nat} (hk : k ≠ 0) (h : headNot k (ts.drop a)) : kindD ts a ≠ k := by
  unfold kindD
  cases hd : ts.drop a with
  | nil => exact fun h => hk h.symm
  | cons t r => exact h t r hd
set_option maxHeartbeats 4000000 in
set_option maxRecDepth 100000 in
theorem ditem_other {b : Nat} {w : World} {A : Option Addr} {n c : Nat} {qs : List TP} (a : Nat) (H : TRead (NB b) w A n c qs) (ha : a ≤ n) (h5 : headNot 5 ((qs.map TP.t).drop a)) (h6 : headNot 6 ((qs.map TP.t).drop a)) (h8 : headNot 8 ((qs.map TP.t).drop a)) (h1 : headNot 1 ((qs.map TP.t).drop a)) :
    Calls Try.prog 78 #[.slice A n c, .int .i64 (a : Nat)] w fun e w' => DAns b w.heap.size (qs.map TP.t) (n - a) (.bad ((qs.map TP.t).drop a)) e w' ∧ Chg Nothing w w' := by
  have hl := hid (show (qs.map TP.t).length = n from by rw [List.length_map, H.len])
  have hK := hid (fun w' (hc : Chg Nothing w w') => kind_any a a rfl (H.calm hc))
  have e5 := kindD_not (by decide) h5
  have e6 := kindD_not (by decide) h6
  have e8 := kindD_not (by decide) h8
  have e1 := kindD_not (by decide) h1
  generalize kindD (qs.map TP.t) a = kd at hK e5 e6 e8 e1
  have f5 : ((kd : Int) == 5) = false := beq_eq_false_iff_ne.2 (by omega)
  have f6 : ((kd : Int) == 6) = false := beq_eq_false_iff_ne.2 (by omega)
  have f8 : ((kd : Int) == 8) = false := beq_eq_false_iff_ne.2 (by omega)
  have f1 : ((kd : Int) == 1) = false := beq_eq_false_iff_ne.2 (by omega)
  clear H e5 e6 e8 e1 h5 h6 h8 h1
  go_enter Try.func78, Try.ntmps78
  go_wp2_with fail
  refine (hK.out _ ((Chg.refl Nothing w).alloc _)).mono ?_
  rintro e w1 ⟨rfl, rfl⟩
  go_wp2
  refine bodyPost_ret (v := .agg #[.slice none 0 0, .int .i64 (a : Nat), .bool true]) (by simp [results, Try.results78, go_sem]) rfl ⟨⟨none, 0, 0, [], a, true, rfl, NOwn.nil _ _ _, Nat.zero_le _, by rw [hl.out]; exact ha, .inr ⟨rfl, rfl⟩⟩, (Chg.refl Nothing w).alloc _⟩
theorem got_put {b base g : Nat} {T : TypeId} {w3 : World} {A : Option Addr} {n c : Nat} {ps : List NP} {u0 u1 u2 : Value} (hZ : Blk w3 g #[u0, u1, u2] T) (hN : NOwn b base w3 A n c ps) (hb : b ≤ g) (hg : g < base) (v0 v1 v2 : Value) :
    Blk (((w3.setCell ⟨g, 0, none⟩ v0).setCell ⟨g, 1, none⟩ v1).setCell ⟨g, 2, none⟩ v2) g #[v0, v1, v2] T ∧ NOwn b base (((w3.setCell ⟨g, 0, none⟩ v0).setCell ⟨g, 1, none⟩ v1).setCell ⟨g, 2, none⟩ v2) A n c ps ∧ Chg (One g) w3 (((w3.setCell ⟨g, 0, none⟩ v0).setCell ⟨g, 1, none⟩ v1).setCell ⟨g, 2, none⟩ v2) := by
  have hc : Chg (One g) w3 (((w3.setCell ⟨g, 0, none⟩ v0).setCell ⟨g, 1, none⟩ v1).setCell ⟨g, 2, none⟩ v2) := (((Chg.refl (One g) w3).setOne 0 v0).setOne 1 v1).setOne 2 v2
  exact ⟨((hZ.set 0 v0).set 1 v1).set 2 v2, hN.apart hc (fun k hk h => by unfold One at h; omega), hc⟩
abbrev G0 : Obj := .cells #[.slice none 0 0, .int .i64 0, .bool false] 54
set_option maxHeartbeats 8000000 in
set_option maxRecDepth 100000 in
theorem ditem_not {b m : Nat} {w : World} {A : Option Addr} {n c : Nat} {qs : List TP} (a : Nat) {t : Tok} {r : List Tok} {R0 R : PR} (hb : b ≤ w.heap.size) (H : TRead (NB b) w A n c qs) (hd : (qs.map TP.t).drop a = t :: r) (hk : t.kind = 5) (hN : n ≤ 100000)
    (hI : DCon b 78 (itemR m)) (h0 : itemR m r R0) (hok : ∀ L q, R0 = .ok L q → R = .ok (⟨4, 0, [], 0⟩ :: L) q) (hbad : ∀ q, R0 = .bad q → R = .bad q) :
    Calls Try.prog 78 #[.slice A n c, .int .i64 (a : Nat)] w fun e w' => DAns b w.heap.size (qs.map TP.t) (n - a) R e w' ∧ Chg Nothing w w' := by
  have hlen : (qs.map TP.t).length = n := by rw [List.length_map, H.len]
  have han : a < n := by
    rcases Nat.lt_or_ge a n with h | h
    · exact h
    · rw [List.drop_eq_nil_of_le (by omega)] at hd; cases hd
  have hd1 : (qs.map TP.t).drop (a + 1) = r := by rw [← List.drop_drop, hd]; rfl
  have hK := hid (fun w' (hc : Chg Nothing w w') => kind_any a a rfl (H.calm hc))
  rw [kindD_cons hd, hk] at hK
  have hIt := hid (fun w' (hc : Chg Nothing w w') => hI A n c qs (a + 1) R0 w' (Nat.le_trans hb hc.size) (H.calm hc) (by rw [hd1]; exact h0) han hN)
  have hdr := hid hok
  have hbr := hid hbad
  have hX := hid ((Chg.refl Nothing w).alloc G0)
  have hZ := hid (Blk.new w #[.slice none 0 0, .int .i64 0, .bool false] 54)
  have ha1 := hid (show ((a : Int) + 1) = ((a + 1 : Nat) : Int) from by omega)
  have ha9 : (a : Int) < 100000 := by omega
  have ha0 : (0 : Int) ≤ (a : Int) := by omega
  clear H hI h0 hok hbad hd hd1
  go_enter Try.func78, Try.ntmps78
  go_wp2_with fail
  refine (hK.out _ hX.out).mono ?_
  rintro e w1 ⟨rfl, rfl⟩
  go_wp2_with fail
  rw [ha1.out]
  refine (hIt.out _ hX.out).mono ?_
  rintro e w2 ⟨⟨A2, n2, c2, ps2, nx, bd, rfl, hO, hn2, hnx, hcs⟩, hc2⟩
  have hC2 := hid (hX.out.trans hc2)
  have hZ2 := hid (hZ.out.chg hc2 id)
  have hO2 := hid hO
  have hb2 : b ≤ w2.heap.size := Nat.le_trans hb hC2.out.size
  have hw2 : w.heap.size < w2.heap.size := hZ2.out.lt
  have hcs2 := hid hcs
  clear hO hcs hc2
  go_wp2_with fail
  refine (with_any 4 0 nx bd hb2 hO2.out (by omega)).mono ?_
  rintro e w3 ⟨A3, c3, rfl, hO3, hc3⟩
  have hZ3 := hZ2.out.chg hc3 id
  have u0 := hZ3.cell 0 (v := .slice none 0 0) rfl
  have u1 := hZ3.cell 1 (v := .int .i64 0) rfl
  have u2 := hZ3.cell 2 (v := .bool false) rfl
  have t0 := hZ3.free 0
  have t1 := hZ3.free 1
  have t2 := hZ3.free 2
  have hw3 := hZ3.lt
  have hP := hid (got_put hZ3 hO3 hb hw2 (.slice A3 (1 + n2) c3) (.int .i64 nx) (.bool bd))
  have hC3 := hid (hC2.out.trans hc3)
  clear hZ3 hO3 hc3 hC2 hZ2 hO2
  go_wp2
  have hB := hP.out.1
  have r0 := hB.cell 0 (v := .slice A3 (1 + n2) c3) rfl
  have r1 := hB.cell 1 (v := .int .i64 nx) rfl
  have r2 := hB.cell 2 (v := .bool bd) rfl
  refine bodyPost_ret (v := .agg #[.slice A3 (1 + n2) c3, .int .i64 nx, .bool bd]) (by simp [results, Try.results78, go_sem, r0, r1, r2]) rfl ⟨⟨A3, 1 + n2, c3, _, nx, bd, rfl, hP.out.2.1.less (by omega), by omega, hnx, ?_⟩, hC3.out.then hP.out.2.2 (fun k hk h => by unfold One at h; omega)⟩
  rcases hcs2.out with ⟨h1, h2⟩ | ⟨h1, h2⟩
  · exact .inl ⟨h1, by rw [hdr.out _ _ h2]; rfl⟩
  · exact .inr ⟨h1, hbr.out _ h2⟩
set_option maxHeartbeats 8000000 in
set_option maxRecDepth 100000 in
theorem ditem_shift {b m : Nat} {w : World} {A : Option Addr} {n c : Nat} {qs : List TP} (a : Nat) {t : Tok} {r : List Tok} {R0 R : PR} (hb : b ≤ w.heap.size) (H : TRead (NB b) w A n c qs) (hd : (qs.map TP.t).drop a = t :: r) (hk : t.kind = 6) (hN : n ≤ 100000)
    (hI : DCon b 78 (itemR m)) (h0 : itemR m r R0) (hok : ∀ L q, R0 = .ok L q → R = .ok (⟨5, t.n, [], 0⟩ :: L) q) (hbad : ∀ q, R0 = .bad q → R = .bad q) :
    Calls Try.prog 78 #[.slice A n c, .int .i64 (a : Nat)] w fun e w' => DAns b w.heap.size (qs.map TP.t) (n - a) R e w' ∧ Chg Nothing w w' := by
  have hlen : (qs.map TP.t).length = n := by rw [List.length_map, H.len]
  have han : a < n := by
    rcases Nat.lt_or_ge a n with h | h
    · exact h
    · rw [List.drop_eq_nil_of_le (by omega)] at hd; cases hd
  have hd1 : (qs.map TP.t).drop (a + 1) = r := by rw [← List.drop_drop, hd]; rfl
  have hK := hid (fun w' (hc : Chg Nothing w w') => kind_any a a rfl (H.calm hc))
  rw [kindD_cons hd, hk] at hK
  have hIt := hid (fun w' (hc : Chg Nothing w w') => hI A n c qs (a + 1) R0 w' (Nat.le_trans hb hc.size) (H.calm hc) (by rw [hd1]; exact h0) han hN)
  have hdr := hid hok
  have hbr := hid hbad
  have hX := hid ((Chg.refl Nothing w).alloc G0)
  have hZ := hid (Blk.new w #[.slice none 0 0, .int .i64 0, .bool false] 54)
  have ha1 := hid (show ((a : Int) + 1) = ((a + 1 : Nat) : Int) from by omega)
  have ha9 : (a : Int) < 100000 := by omega
  have ha0 : (0 : Int) ≤ (a : Int) := by omega
  obtain ⟨g, o, tp, rr, rfl, hgl, -, hdd, -, -, k2, -⟩ := H.at_ han
  have htn : tp.t = t := by rw [← List.map_drop, hdd] at hd; injection hd
  rw [htn] at k2
  have hS := hid (fun (w' : World) (hc : Chg (One w.heap.size) w w') => (World.cell?_of_block (w := w) (hc.block g hgl (fun h => by unfold One at h; omega))).trans k2)
  have han' : (a : Int) < (n : Int) := by omega
  have hle := H.row.le
  have hmx := H.row.max
  have y2 := hS.out _ (hX.out.mono (fun _ _ h => h.elim))
  have hgl1 : g < (w.alloc G0).heap.size := by rw [World.size_alloc]; omega
  have hXd := hid (hX.out.drew)
  have hwr := hid (show IntKind.i64.wrap ((a : Int) + 1) = ((a + 1 : Nat) : Int) from by rw [IntKind.wrap_i64]; omega)
  have hXm := hid ((hX.out.drew).mono (T := One w.heap.size) (fun _ _ h => h.elim))
  clear k2 hdd htn H hI h0 hok hbad hd hd1
  go_enter Try.func78, Try.ntmps78
  go_wp2_with fail
  refine (hK.out _ hX.out).mono ?_
  rintro e w1 ⟨rfl, rfl⟩
  go_wp2_with fail
  go_region_held3 (fun w' => w'.cell? ⟨g, o + a * 4 + 2, none⟩ = some (.int .i64 t.n))
    (first | exact hS.out _ hXm.out | exact hS.out _ (hXm.out.trans (hc2.mono (fun _ _ h => h.elim))) | exact hS.out _ (hC3.out.mono (fun _ _ h => h.elim)) | exact hS.out _ ((hC3.out.mono (fun _ _ h => h.elim)).trans (hP.out.2.2.mono (fun _ _ h => h))))
    (first
    | (go_at_call 78; rw [hwr.out]; refine (hIt.out _ hXd.out).mono ?_; rintro e w2 ⟨⟨A2, n2, c2, ps2, nx, bd, rfl, hO, hn2, hnx, hcs⟩, hc2⟩)
    | (go_at_call 92; with_reducible refine (with_any 5 t.n nx bd (Nat.le_trans hb (hXd.out.trans hc2).size) hO (Nat.le_trans hn2 (Nat.le_trans (Nat.sub_le _ _) hN))).mono ?_; rintro e w3 ⟨A3, c3, rfl, hO3, hc3⟩; have hC3 := hid ((hXd.out.trans hc2).trans hc3); have hZ2 := (Blk.drew hZ.out).chg hc2 id; have hZ3 := hZ2.chg hc3 id; have u0 := hZ3.cell 0 (v := .slice none 0 0) rfl; have u1 := hZ3.cell 1 (v := .int .i64 0) rfl; have u2 := hZ3.cell 2 (v := .bool false) rfl; have t0 := hZ3.free 0; have t1 := hZ3.free 1; have t2 := hZ3.free 2; have hw3 := hZ3.lt; have hsz2 : w.heap.size ≤ w2.heap.size := (hXd.out.trans hc2).size; have hP := hid (got_put hZ3 hO3 hb hZ2.lt (.slice A3 (1 + n2) c3) (.int .i64 nx) (.bool bd)); clear hZ2 hZ3))
  have hcs2 := hid hcs
  clear hO hcs hc2 hO3 hc3 u0 u1 u2 t0 t1 t2
  go_wp2
  have hB := hP.out.1
  have r0 := hB.cell 0 (v := .slice A3 (1 + n2) c3) rfl
  have r1 := hB.cell 1 (v := .int .i64 nx) rfl
  have r2 := hB.cell 2 (v := .bool bd) rfl
  refine bodyPost_ret (v := .agg #[.slice A3 (1 + n2) c3, .int .i64 nx, .bool bd]) (by simp [results, Try.results78, go_sem, r0, r1, r2]) rfl ⟨⟨A3, 1 + n2, c3, _, nx, bd, rfl, hP.out.2.1.less hsz2, by omega, hnx, ?_⟩, hC3.out.then hP.out.2.2 (fun k hk h => by unfold One at h; omega)⟩
  rcases hcs2.out with ⟨h1, h2⟩ | ⟨h1, h2⟩
  · exact .inl ⟨h1, by rw [hdr.out _ _ h2]; rfl⟩
  · exact .inr ⟨h1, hbr.out _ h2⟩
end Go.Proofs.Ytllblpiakijpaaa

/- Layer 14: the document's item at a pattern. -/
namespace Go.Proofs.Ytllblpiakijpaaa
open Go.RowKit
set_option linter.unusedVariables false
theorem findR_none {p : List Cls} {r : List Tok} (h : headNot 7 r) : findR p r = .ok [⟨1, 0, p, 0⟩] r := by
  cases r with
  | nil => rfl
  | cons u r => unfold findR; simp only; rw [if_neg (h u r rfl)]
/-- The last lines of item at a pattern. -/
theorem dpat_tail {b a2 a n : Nat} {ts : List Tok} {w : World} {q : List Tok} {A : Option Addr} {l c : Nat} {p : List Cls} {K : Int} {g : Nat} {z : Int} {X : Array Value} {T : TypeId} (hb : b ≤ w.heap.size) (hg : g = w.heap.size + 1 + 1) (hz : z = (a2 : Nat))
    (HP : ∀ w', Chg Nothing w w' → ClsRow (NB b) w' A l c p) (hl : p.length = l) (ha : a < n) (ha2 : a2 ≤ ts.length) (hq : ts.drop a2 = q) :
    ∀ W', W' = (((w.alloc (.cells #[.slice (some ⟨g, 0, none⟩) 1 1, .int .i64 z, .bool false] 54)).alloc (.cells X T)).alloc (.cells #[.int .i64 1, .int .i64 0, .slice A l c, .int .i64 K] 40)) →
      Blk W' w.heap.size #[.slice (some ⟨g, 0, none⟩) 1 1, .int .i64 z, .bool false] 54 ∧ DAns b w.heap.size ts (n - a) (.ok [⟨1, 0, p, K⟩] q) (.returned (.agg #[.slice (some ⟨g, 0, none⟩) 1 1, .int .i64 z, .bool false])) W' ∧ Chg Nothing w W' := by
  rintro W' rfl
  subst hg hz
  have h0 := ((Chg.refl Nothing w).alloc (.cells #[.slice (some ⟨w.heap.size + 1 + 1, 0, none⟩) 1 1, .int .i64 (a2 : Nat), .bool false] 54)).alloc (.cells X T)
  have h1 := nown_one (b := b) (W := (w.alloc (.cells #[.slice (some ⟨w.heap.size + 1 + 1, 0, none⟩) 1 1, .int .i64 (a2 : Nat), .bool false] 54)).alloc (.cells X T)) ⟨⟨1, 0, p, K⟩, A, l, c⟩ ⟨HP _ h0, hl⟩
  rw [World.size_alloc, World.size_alloc] at h1
  exact ⟨((Blk.new w _ _).alloc _).alloc _, ⟨_, 1, 1, _, a2, false, rfl, h1.less (by omega), by omega, ha2, .inl ⟨rfl, by rw [hq]; rfl⟩⟩, h0.alloc _⟩
theorem dpat_bad {b a2 a n : Nat} {ts : List Tok} {w : World} {q : List Tok} {z : Int} {o : Obj} (hz : z = (a2 : Nat)) (ha2 : a2 ≤ ts.length) (hq : ts.drop a2 = q) :
    ∀ W', W' = ((w.alloc (.cells #[.slice none 0 0, .int .i64 z, .bool true] 54)).alloc o) →
      Blk W' w.heap.size #[.slice none 0 0, .int .i64 z, .bool true] 54 ∧ DAns b w.heap.size ts (n - a) (.bad q) (.returned (.agg #[.slice none 0 0, .int .i64 z, .bool true])) W' ∧ Chg Nothing w W' := by
  rintro W' rfl
  subst hz
  exact ⟨(Blk.new w _ _).alloc _, ⟨none, 0, 0, [], a2, true, rfl, NOwn.nil _ _ _, Nat.zero_le _, ha2, .inr ⟨rfl, by rw [hq]⟩⟩, ((Chg.refl Nothing w).alloc _).alloc _⟩
set_option maxHeartbeats 8000000 in
set_option maxRecDepth 100000 in
theorem ditem_pat {b : Nat} {w : World} {A : Option Addr} {n c : Nat} {qs : List TP} (a : Nat) {t : Tok} {r : List Tok} (hb : b ≤ w.heap.size) (H : TRead (NB b) w A n c qs) (hd : (qs.map TP.t).drop a = t :: r) (hk : t.kind = 8) (hN : n ≤ 100000) :
    Calls Try.prog 78 #[.slice A n c, .int .i64 (a : Nat)] w fun e w' => DAns b w.heap.size (qs.map TP.t) (n - a) (findR t.p r) e w' ∧ Chg Nothing w w' := by
  have hlen : (qs.map TP.t).length = n := by rw [List.length_map, H.len]
  have han : a < n := by
    rcases Nat.lt_or_ge a n with h | h
    · exact h
    · rw [List.drop_eq_nil_of_le (by omega)] at hd; cases hd
  have hd1 : (qs.map TP.t).drop (a + 1) = r := by rw [← List.drop_drop, hd]; rfl
  have hK := hid (fun w' (hc : Chg Nothing w w') => kind_any a a rfl (H.calm hc))
  have hK1 := hid (fun w' (hc : Chg Nothing w w') => kind_any (a + 1) ((a : Int) + 1) (by omega) (H.calm hc))
  rw [kindD_cons hd, hk] at hK
  obtain ⟨g, o, tp, rr, rfl, hgl, htm, hdd, -, -, -, k3⟩ := H.at_ han
  have htn : tp.t = t := by rw [← List.map_drop, hdd] at hd; injection hd
  have hPR := H.els tp htm
  have hrow := hid (fun w' (hc : Chg Nothing w w') => hPR.row.chg hc (fun _ _ _ h => h))
  have hpl := hid hPR.len
  rw [htn] at hrow hpl
  have hX := hid ((Chg.refl Nothing w).alloc G0)
  have hZ := hid (Blk.new w #[.slice none 0 0, .int .i64 0, .bool false] 54)
  have ha9 : (a : Int) < 100000 := by omega
  have ha0 : (0 : Int) ≤ (a : Int) := by omega
  have han' : (a : Int) < (n : Int) := by omega
  have hle := H.row.le
  have hmx := H.row.max
  have hlt1 : (w.alloc G0).heap.size = w.heap.size + 1 := World.size_alloc _ _
  have y3 : (w.alloc G0).cell? ⟨g, o + a * 4 + 3, none⟩ = some (.slice tp.A tp.l tp.c) := (World.cell?_of_block (w := w) (hX.out.block g hgl id)).trans k3
  have han1 := hid (show a + 1 ≤ (qs.map TP.t).length from by rw [hlen]; exact han)
  have hd1h := hid hd1
  have hanh := hid han
  by_cases h7 : headNot 7 r
  · rw [findR_none h7]
    have hk7 := kindD_not (ts := qs.map TP.t) (a := a + 1) (k := 7) (by decide) (by rw [hd1]; exact h7)
    generalize kindD (qs.map TP.t) (a + 1) = kd at hK1 hk7
    have f7 : ((kd : Int) == 7) = false := beq_eq_false_iff_ne.2 (by omega)
    clear H hd hdd hPR k3 htm htn h7 hk7 hd1 hlen
    go_enter Try.func78, Try.ntmps78
    go_wp2_with fail
    refine (hK.out _ hX.out).mono ?_
    rintro e w1 ⟨rfl, rfl⟩
    go_wp2_with fail
    refine (hK1.out _ (hX.out.alloc _)).mono ?_
    rintro e w1 ⟨rfl, rfl⟩
    go_wp2
    have hG := dpat_tail (g := w.heap.size + 1 + 1) (z := (a : Int) + 1) (a2 := a + 1) (n := n) (K := 0) (X := #[.slice tp.A tp.l tp.c, .int .i64 0]) (T := 36) hb rfl (by omega) hrow.out hpl.out hanh.out han1.out hd1h.out _ rfl
    have r0 := hG.1.cell 0 rfl
    have r1 := hG.1.cell 1 rfl
    have r2 := hG.1.cell 2 rfl
    refine bodyPost_ret (v := .agg #[.slice (some ⟨w.heap.size + 1 + 1, 0, none⟩) 1 1, .int .i64 ((a : Int) + 1), .bool false]) (by simp [results, Try.results78, go_sem, r0, r1, r2]) rfl hG.2
  · obtain ⟨u, r', rfl, hu⟩ : ∃ u r', r = u :: r' ∧ u.kind = 7 := by
      cases r with
      | nil => exact absurd (fun t r e => by cases e) h7
      | cons u r' => exact ⟨u, r', rfl, by by_cases h : u.kind = 7; exact h; exact absurd (fun t r e => by injection e with e1 e2; subst e1; exact h) h7⟩
    have hk7 : kindD (qs.map TP.t) (a + 1) = 7 := by rw [kindD_cons hd1, hu]
    rw [hk7] at hK1
    have han2 : a + 1 < n := by
      rcases Nat.lt_or_ge (a + 1) n with h | h
      · exact h
      · rw [List.drop_eq_nil_of_le (by omega)] at hd1; cases hd1
    have hd2 := hid (show (qs.map TP.t).drop (a + 2) = r' from by rw [show a + 2 = (a + 1) + 1 from rfl, ← List.drop_drop, hd1]; rfl)
    have han3 := hid (show a + 2 ≤ (qs.map TP.t).length from by rw [hlen]; omega)
    obtain ⟨g2, o2, tp2, rr2, e2, hgl2, -, hdd2, -, -, k2, -⟩ := H.at_ han2
    injection e2 with e2
    injection e2 with e2 e3
    subst e2 e3
    have htn2 : tp2.t = u := by rw [← List.map_drop, hdd2] at hd1; injection hd1
    rw [htn2] at k2
    have y2 : ((w.alloc G0).alloc (.cells #[.slice tp.A tp.l tp.c, .int .i64 0] 36)).cell? ⟨g, o + (a + 1) * 4 + 2, none⟩ = some (.int .i64 u.n) := (World.cell?_of_block (w := w) ((hX.out.alloc _).block g hgl id)).trans k2
    rw [show findR t.p (u :: r') = (if 64 < u.n then .bad (u :: r') else .ok [⟨1, 0, t.p, u.n⟩] r') from by unfold findR; simp only; rw [if_pos hu]]
    have han4 : (a : Int) + 1 < (n : Int) := by omega
    have hnn : ((a : Int) + 1).toNat = a + 1 := by omega
    by_cases hn : 64 < u.n
    · rw [if_pos hn]
      have hn' : (64 : Int) < (u.n : Int) := by omega
      clear H hd hdd hPR k3 htm htn h7 hk7 hd1 hlen hdd2 htn2 k2 hn
      go_enter Try.func78, Try.ntmps78
      go_wp2_with fail
      refine (hK.out _ hX.out).mono ?_
      rintro e w1 ⟨rfl, rfl⟩
      go_wp2_with fail
      refine (hK1.out _ (hX.out.alloc _)).mono ?_
      rintro e w1 ⟨rfl, rfl⟩
      go_wp2
      have hG := dpat_bad (b := b) (a := a) (n := n) (z := (a : Int) + 1) (a2 := a + 1) (w := w) (o := .cells #[.slice tp.A tp.l tp.c, .int .i64 0] 36) (by omega) han1.out hd1h.out _ rfl
      have r0 := hG.1.cell 0 rfl
      have r1 := hG.1.cell 1 rfl
      have r2 := hG.1.cell 2 rfl
      refine bodyPost_ret (v := .agg #[.slice none 0 0, .int .i64 ((a : Int) + 1), .bool true]) (by simp [results, Try.results78, go_sem, r0, r1, r2]) rfl hG.2
    · rw [if_neg hn]
      have hn' : decide ((64 : Int) < (u.n : Int)) = false := decide_eq_false (by omega)
      generalize (u.n : Int) = z at y2 k2 hn' ⊢
      clear H hd hdd hPR k3 htm htn h7 hk7 hd1 hlen hdd2 htn2 k2 hn
      go_enter Try.func78, Try.ntmps78
      go_wp2_with fail
      refine (hK.out _ hX.out).mono ?_
      rintro e w1 ⟨rfl, rfl⟩
      go_wp2_with fail
      refine (hK1.out _ (hX.out.alloc _)).mono ?_
      rintro e w1 ⟨rfl, rfl⟩
      go_wp2
      have hG := dpat_tail (g := w.heap.size + 1 + 1) (z := (a : Int) + 1 + 1) (a2 := a + 2) (n := n) (K := z) (X := #[.slice tp.A tp.l tp.c, .int .i64 z]) (T := 36) hb rfl (by omega) hrow.out hpl.out hanh.out han3.out hd2.out _ rfl
      have r0 := hG.1.cell 0 rfl
      have r1 := hG.1.cell 1 rfl
      have r2 := hG.1.cell 2 rfl
      refine bodyPost_ret (v := .agg #[.slice (some ⟨w.heap.size + 1 + 1, 0, none⟩) 1 1, .int .i64 ((a : Int) + 1 + 1), .bool false]) (by simp [results, Try.results78, go_sem, r0, r1, r2]) rfl hG.2
end Go.Proofs.Ytllblpiakijpaaa

/- Layer 14: the document's item at a bracket. -/
namespace Go.Proofs.Ytllblpiakijpaaa
open Go.RowKit
set_option linter.unusedVariables false
/-- What a part answers, with the sizes told. -/
theorem dans_sizes {b base a : Nat} {ts : List Tok} {R : PR} {e : Ending} {w' : World} (h : DAns b base ts (ts.length - a) R e w') (hf : Fine (ts.drop a) R) (ha : a ≤ ts.length) : ∃ A n c ps nx bad, e = .returned (.agg #[.slice A n c, .int .i64 (nx : Nat), .bool bad]) ∧ NOwn b base w' A n c ps ∧ n ≤ ts.length - a ∧ nx ≤ ts.length ∧ a ≤ nx ∧
    ((bad = false ∧ n + (ts.length - nx) ≤ ts.length - a ∧ R = .ok (ps.map NP.x) (ts.drop nx)) ∨ (bad = true ∧ R = .bad (ts.drop nx))) := by
  obtain ⟨A, n, c, ps, nx, bad, he, hO, hn, hnx, hcs⟩ := h
  rcases hcs with ⟨h1, h2⟩ | ⟨h1, h2⟩
  · obtain ⟨pre, hp, -, hl, -⟩ := hf.ok _ _ h2
    have hl2 := congrArg List.length hp
    rw [List.length_append, List.length_drop, List.length_drop] at hl2
    rw [List.length_map, hO.len] at hl
    exact ⟨A, n, c, ps, nx, bad, he, hO, hn, hnx, by omega, .inl ⟨h1, by omega, h2⟩⟩
  · obtain ⟨pre, hp⟩ := hf.bad _ h2
    have hl2 := congrArg List.length hp
    rw [List.length_append, List.length_drop, List.length_drop] at hl2
    exact ⟨A, n, c, ps, nx, bad, he, hO, hn, hnx, by omega, .inr ⟨h1, h2⟩⟩
set_option maxHeartbeats 8000000 in
set_option maxRecDepth 100000 in
theorem ditem_open {b m : Nat} {w : World} {A : Option Addr} {n c : Nat} {qs : List TP} (a : Nat) {t : Tok} {r : List Tok} {R0 R : PR} (hb : b ≤ w.heap.size) (H : TRead (NB b) w A n c qs) (hd : (qs.map TP.t).drop a = t :: r) (hk : t.kind = 1) (hN : n ≤ 100000)
    (hQ : DCon b 32 (queryR m)) (h0 : queryR m r R0)
    (h1 : ∀ L u q, R0 = .ok L (u :: q) → u.kind = 2 → R = .ok L q) (h2 : ∀ L q, R0 = .ok L q → headNot 2 q → R = .bad q) (h3 : ∀ q, R0 = .bad q → R = .bad q) :
    Calls Try.prog 78 #[.slice A n c, .int .i64 (a : Nat)] w fun e w' => DAns b w.heap.size (qs.map TP.t) (n - a) R e w' ∧ Chg Nothing w w' := by
  have hlen : (qs.map TP.t).length = n := by rw [List.length_map, H.len]
  have han : a < n := by
    rcases Nat.lt_or_ge a n with h | h
    · exact h
    · rw [List.drop_eq_nil_of_le (by omega)] at hd; cases hd
  have hd1 : (qs.map TP.t).drop (a + 1) = r := by rw [← List.drop_drop, hd]; rfl
  have hK := hid (fun w' (hc : Chg Nothing w w') => kind_any a a rfl (H.calm hc))
  have hK2 := hid (fun w' (hc : Chg Nothing w w') (a' : Nat) => kind_any a' a' rfl (H.calm hc))
  rw [kindD_cons hd, hk] at hK
  have hIt := hid (fun w' (hc : Chg Nothing w w') => hQ A n c qs (a + 1) R0 w' (Nat.le_trans hb hc.size) (H.calm hc) (by rw [hd1]; exact h0) han hN)
  have hfine := hid (fine_query m h0)
  have hr1 := hid h1
  have hr2 := hid h2
  have hr3 := hid h3
  have hX := hid ((Chg.refl Nothing w).alloc G0)
  have hZ := hid (Blk.new w #[.slice none 0 0, .int .i64 0, .bool false] 54)
  have ha1 := hid (show ((a : Int) + 1) = ((a + 1 : Nat) : Int) from by omega)
  have ha9 : (a : Int) < 100000 := by omega
  have ha0 : (0 : Int) ≤ (a : Int) := by omega
  have hlh := hid hlen
  have hdh := hid hd1
  clear H hQ h0 h1 h2 h3 hd hd1 hlen
  go_enter Try.func78, Try.ntmps78
  go_wp2_with fail
  refine (hK.out _ hX.out).mono ?_
  rintro e w1 ⟨rfl, rfl⟩
  go_wp2_with fail
  rw [ha1.out]
  refine (hIt.out _ hX.out).mono ?_
  rintro e w2 ⟨hA, hc2⟩
  obtain ⟨A2, n2, c2, ps2, nx, bd, rfl, hO, hn2, hnx, hax, hcs⟩ := dans_sizes (by rw [hlh.out]; exact hA) (by rw [hdh.out]; exact hfine.out) (by rw [hlh.out]; exact han)
  rw [hlh.out] at hn2 hnx hcs
  have hC2 := hid (hX.out.trans hc2)
  have hZ2 := hid (hZ.out.chg hc2 id)
  have hO2 := hid hO
  have hb2 : b ≤ w2.heap.size := Nat.le_trans hb hC2.out.size
  have hw2 : w.heap.size < w2.heap.size := hZ2.out.lt
  have hcs2 := hid hcs
  have t0 := hZ2.out.free 0
  have t1 := hZ2.out.free 1
  have t2 := hZ2.out.free 2
  have u0 := hZ2.out.cell 0 (v := .slice none 0 0) rfl
  have u1 := hZ2.out.cell 1 (v := .int .i64 0) rfl
  have u2 := hZ2.out.cell 2 (v := .bool false) rfl
  have htl := hw2
  clear hO hcs hc2 hA hIt hK
  have hfin : ∀ (A' : Option Addr) (n' c' : Nat) (ps' : List NP) (z : Int) (nx' : Nat) (bd' : Bool) (X : Array Value), NOwn b (w.heap.size + 1) w2 A' n' c' ps' → z = (nx' : Nat) → n' ≤ n - (a + 1) → nx' ≤ n → ((bd' = false ∧ R = .ok (ps'.map NP.x) ((qs.map TP.t).drop nx')) ∨ (bd' = true ∧ R = .bad ((qs.map TP.t).drop nx'))) →
      ∀ W'', W'' = ((((w2.setCell ⟨w.heap.size, 0, none⟩ (.slice A' n' c')).setCell ⟨w.heap.size, 1, none⟩ (.int .i64 z)).setCell ⟨w.heap.size, 2, none⟩ (.bool bd')).alloc (.cells X 54)) → Blk W'' w.heap.size #[.slice A' n' c', .int .i64 z, .bool bd'] 54 ∧ DAns b w.heap.size (qs.map TP.t) (n - a) R (.returned (.agg #[.slice A' n' c', .int .i64 z, .bool bd'])) W'' ∧ Chg Nothing w W'' := by
    intro A' n' c' ps' z nx' bd' X hN1 hz hn' hnx' hcs'
    rintro W'' rfl
    subst hz
    have hP := got_put hZ2.out hN1 hb (by omega) (.slice A' n' c') (.int .i64 (nx' : Nat)) (.bool bd')
    have hal := (Chg.refl Nothing (((w2.setCell ⟨w.heap.size, 0, none⟩ (.slice A' n' c')).setCell ⟨w.heap.size, 1, none⟩ (.int .i64 (nx' : Nat))).setCell ⟨w.heap.size, 2, none⟩ (.bool bd'))).alloc (.cells X 54)
    exact ⟨hP.1.alloc _, ⟨A', n', c', ps', nx', bd', rfl, (hP.2.1.calm hal).less (by omega), by omega, by rw [hlh.out]; exact hnx', hcs'⟩, (hC2.out.then hP.2.2 (fun k hk h => by unfold One at h; omega)).trans hal⟩
  have hfinh := hid hfin
  have hO1 := hid (hO2.out.less (base' := w.heap.size + 1) (by rw [World.size_alloc]; exact Nat.le_refl _))
  clear hfin
  cases bd with
  | true =>
    have hF := hid (hfinh.out A2 n2 c2 ps2 nx nx true #[.slice A2 n2 c2, .int .i64 nx, .bool true] hO1.out rfl hn2 hnx (.inr ⟨rfl, hr3.out _ (by have h := hcs2.out; simp only [Bool.true_eq_false, false_and, false_or, true_and] at h; exact h)⟩))
    go_wp2
    have hG := hF.out _ rfl
    have r0 := hG.1.cell 0 (v := .slice A2 n2 c2) rfl
    have r1 := hG.1.cell 1 (v := .int .i64 nx) rfl
    have r2 := hG.1.cell 2 (v := .bool true) rfl
    refine bodyPost_ret (v := .agg #[.slice A2 n2 c2, .int .i64 nx, .bool true]) (by simp [results, Try.results78, go_sem, r0, r1, r2]) rfl hG.2
  | false =>
    have hR0 : R0 = .ok (ps2.map NP.x) ((qs.map TP.t).drop nx) := by
      rcases hcs2.out with ⟨-, -, h⟩ | ⟨h, -⟩
      · exact h
      · cases h
    have hKn := hid (hK2.out _ (hC2.out.alloc (.cells #[.slice A2 n2 c2, .int .i64 (nx : Nat), .bool false] 54)) nx)
    by_cases hq : headNot 2 ((qs.map TP.t).drop nx)
    · have hF := hid (hfinh.out none 0 0 [] nx nx true #[.slice A2 n2 c2, .int .i64 nx, .bool false] (NOwn.nil _ _ _) rfl (Nat.zero_le _) hnx (.inr ⟨rfl, hr2.out _ _ hR0 hq⟩))
      have hkk := kindD_not (ts := qs.map TP.t) (a := nx) (k := 2) (by decide) hq
      generalize kindD (qs.map TP.t) nx = kd at hKn hkk
      have hk2 : ((kd : Int) != 2) = true := bne_iff_ne.2 (by omega)
      clear hkk hq hR0
      go_wp2_with fail
      refine (hKn.out).mono ?_
      rintro e w3 ⟨rfl, rfl⟩
      go_wp2
      have hG := hF.out _ rfl
      have r0 := hG.1.cell 0 (v := .slice none 0 0) rfl
      have r1 := hG.1.cell 1 (v := .int .i64 nx) rfl
      have r2 := hG.1.cell 2 (v := .bool true) rfl
      refine bodyPost_ret (v := .agg #[.slice none 0 0, .int .i64 nx, .bool true]) (by simp [results, Try.results78, go_sem, r0, r1, r2]) rfl hG.2
    · obtain ⟨u, q, hdq, hu⟩ : ∃ u q, (qs.map TP.t).drop nx = u :: q ∧ u.kind = 2 := by
        cases hdd : (qs.map TP.t).drop nx with
        | nil => exact absurd (fun t r e => by rw [hdd] at e; cases e) hq
        | cons u q => exact ⟨u, q, rfl, by by_cases h : u.kind = 2; exact h; exact absurd (fun t r e => by rw [hdd] at e; injection e with e1 e2; subst e1; exact h) hq⟩
      have hnxn : nx < n := by
        rcases Nat.lt_or_ge nx n with h | h
        · exact h
        · rw [List.drop_eq_nil_of_le (by rw [hlh.out]; exact h)] at hdq; cases hdq
      have hdr : (qs.map TP.t).drop (nx + 1) = q := by rw [← List.drop_drop, hdq]; rfl
      have hF := hid (hfinh.out A2 n2 c2 ps2 ((nx : Int) + 1) (nx + 1) false #[.slice A2 n2 c2, .int .i64 ((nx : Int) + 1), .bool false] hO1.out (by omega) hn2 hnxn (.inl ⟨rfl, by rw [hdr]; exact hr1.out _ _ _ (by rw [hR0, hdq]) hu⟩))
      rw [kindD_cons hdq, hu] at hKn
      have hnx9 : (nx : Int) < 100000 := by omega
      clear hq hdq hdr hR0
      go_wp2_with fail
      refine (hKn.out).mono ?_
      rintro e w3 ⟨rfl, rfl⟩
      go_wp2
      have hG := hF.out _ rfl
      have r0 := hG.1.cell 0 (v := .slice A2 n2 c2) rfl
      have r1 := hG.1.cell 1 (v := .int .i64 ((nx : Int) + 1)) rfl
      have r2 := hG.1.cell 2 (v := .bool false) rfl
      refine bodyPost_ret (v := .agg #[.slice A2 n2 c2, .int .i64 ((nx : Int) + 1), .bool false]) (by simp [results, Try.results78, go_sem, r0, r1, r2]) rfl hG.2
end Go.Proofs.Ytllblpiakijpaaa

/- Layer 14: the document's part. (Printed by wip/gen/gen_pde.py.) -/
namespace Go.Proofs.Ytllblpiakijpaaa
open Go.RowKit
set_option linter.unusedVariables false
def DInv (w : World) (b g N : Nat) (ts : List Tok) (one : List Tok → PR → Prop) (sign : Nat) (kind : Int) (R : PR) (wr : World) : Prop := ∃ A n c ps nx bd, Blk wr g #[.slice A n c, .int .i64 (nx : Nat), .bool bd] 54 ∧ Blk wr w.heap.size #[.slice none 0 0, .int .i64 0, .bool false] 54 ∧ NOwn b (w.heap.size + 1) wr A n c ps ∧ (∀ k, Of A k → k ≠ g) ∧ Chg Nothing w wr ∧ nx ≤ ts.length ∧ n ≤ N ∧
  ((bd = false ∧ n + (ts.length - nx) ≤ N ∧ LoopRd one sign kind (ps.map NP.x) (ts.drop nx) R) ∨ (bd = true ∧ R = .bad (ts.drop nx)))
def nxOf (g : Nat) (w : World) : Nat := match w.cell? ⟨g, 1, none⟩ with | some (.int _ n) => n.toNat | _ => 0
theorem nxOf_blk {w : World} {g : Nat} {v0 v2 : Value} {nx : Nat} {T : TypeId} (h : Blk w g #[v0, .int .i64 (nx : Nat), v2] T) : nxOf g w = nx := by
  have := h.cell 1 (v := .int .i64 (nx : Nat)) rfl
  unfold nxOf; rw [this]; simp
/-- The box of what was read is written. -/
theorem got_put2 {b base g : Nat} {T : TypeId} {w3 : World} {A : Option Addr} {n c : Nat} {ps : List NP} {u0 u1 u2 : Value} (hZ : Blk w3 g #[u0, u1, u2] T) (hN : NOwn b base w3 A n c ps) (hb : b ≤ g) (hg : ∀ k, Of A k → k ≠ g) (v0 v1 v2 : Value) :
    Blk (((w3.setCell ⟨g, 0, none⟩ v0).setCell ⟨g, 1, none⟩ v1).setCell ⟨g, 2, none⟩ v2) g #[v0, v1, v2] T ∧ NOwn b base (((w3.setCell ⟨g, 0, none⟩ v0).setCell ⟨g, 1, none⟩ v1).setCell ⟨g, 2, none⟩ v2) A n c ps ∧ Chg (One g) w3 (((w3.setCell ⟨g, 0, none⟩ v0).setCell ⟨g, 1, none⟩ v1).setCell ⟨g, 2, none⟩ v2) := by
  have hc : Chg (One g) w3 (((w3.setCell ⟨g, 0, none⟩ v0).setCell ⟨g, 1, none⟩ v1).setCell ⟨g, 2, none⟩ v2) := (((Chg.refl (One g) w3).setOne 0 v0).setOne 1 v1).setOne 2 v2
  exact ⟨((hZ.set 0 v0).set 1 v1).set 2 v2, ⟨hN.len, own_chg hN.own hc (fun k hk h => hg k hk h), fun p hp => (hN.els p hp).chg hc (fun k _ hk h => by unfold NB at hk; unfold One at h; omega)⟩, hc⟩
/-- What is answered at the end of the loop. -/
theorem dend {w wr : World} {b N : Nat} {ts : List Tok} {R : PR} {A : Option Addr} {n c nx : Nat} {ps : List NP} {bd : Bool} (hb : b ≤ w.heap.size) (hZ : Blk wr w.heap.size #[.slice none 0 0, .int .i64 0, .bool false] 54) (hO : NOwn b (w.heap.size + 1) wr A n c ps) (hC : Chg Nothing w wr) (hnx : nx ≤ ts.length) (hn : n ≤ N)
    (hcs : (bd = false ∧ R = .ok (ps.map NP.x) (ts.drop nx)) ∨ (bd = true ∧ R = .bad (ts.drop nx))) : ∀ W, W = (((wr.setCell ⟨w.heap.size, 0, none⟩ (.slice A n c)).setCell ⟨w.heap.size, 1, none⟩ (.int .i64 (nx : Nat))).setCell ⟨w.heap.size, 2, none⟩ (.bool bd)) →
      Blk W w.heap.size #[.slice A n c, .int .i64 (nx : Nat), .bool bd] 54 ∧ DAns b w.heap.size ts N R (.returned (.agg #[.slice A n c, .int .i64 (nx : Nat), .bool bd])) W ∧ Chg Nothing w W := by
  rintro W rfl
  have hP := got_put hZ hO hb (by omega) (.slice A n c) (.int .i64 (nx : Nat)) (.bool bd)
  exact ⟨hP.1, ⟨A, n, c, ps, nx, bd, rfl, hP.2.1.less (by omega), hn, hnx, hcs⟩, hC.then hP.2.2 (fun k hk h => by unfold One at h; omega)⟩
/-- Behind a round. -/
theorem dstep {w W w5 : World} {b g g6 N m c5 nx3 : Nat} {A5 : Option Addr} {ps : List NP} {bd : Bool} {ts : List Tok} {one : List Tok → PR → Prop} {sign : Nat} {kind : Int} {R : PR} {x0 x1 x2 u : Value} (hb : b ≤ w.heap.size) (hZW : Blk W w.heap.size #[.slice none 0 0, .int .i64 0, .bool false] 54) (hBW : Blk W g #[x0, x1, x2] 54) (hCW : Chg Nothing w W) (hg : w.heap.size < g) (hg6 : g < g6) (hg6W : g6 < W.heap.size)
    (hC5 : Chg (fun k => W.heap.size ≤ k) W w5) (hown : w5.ownsRow W.heap.size 40 4 (.slice A5 m c5) m (ps.flatMap ndL)) (hlen : ps.length = m) (hels : ∀ p ∈ ps, NRead (NB b) W p) (hm : m ≤ N) (hnx : nx3 ≤ ts.length)
    (hcs : (bd = false ∧ m + (ts.length - nx3) ≤ N ∧ LoopRd one sign kind (ps.map NP.x) (ts.drop nx3) R) ∨ (bd = true ∧ R = .bad (ts.drop nx3))) :
    ∀ V, V = ((((w5.setCell ⟨g6, 0, none⟩ u).setCell ⟨g, 0, none⟩ (.slice A5 m c5)).setCell ⟨g, 1, none⟩ (.int .i64 (nx3 : Nat))).setCell ⟨g, 2, none⟩ (.bool bd)) → DInv w b g N ts one sign kind R V ∧ nxOf g V = nx3 := by
  rintro V rfl
  have hc : Chg (fun k => k = g ∨ k = g6) w5 ((((w5.setCell ⟨g6, 0, none⟩ u).setCell ⟨g, 0, none⟩ (.slice A5 m c5)).setCell ⟨g, 1, none⟩ (.int .i64 (nx3 : Nat))).setCell ⟨g, 2, none⟩ (.bool bd)) :=
    ((((Chg.refl _ w5).setCell _ (fun _ => .inr rfl) _).setCell _ (fun _ => .inl rfl) _).setCell _ (fun _ => .inl rfl) _).setCell _ (fun _ => .inl rfl) _
  have hB := ((((hBW.chg hC5 (by omega)).other (p := ⟨g6, 0, none⟩) (by simp only; omega) u).set 0 (.slice A5 m c5)).set 1 (.int .i64 (nx3 : Nat))).set 2 (.bool bd)
  have hN0 : NOwn b W.heap.size w5 A5 m c5 ps := ⟨hlen, hown, fun p hp => (hels p hp).chg hC5 (fun k hk _ h => absurd hk (Nat.not_lt.2 h))⟩
  have hwg := hCW.size
  have hN : NOwn b (w.heap.size + 1) ((((w5.setCell ⟨g6, 0, none⟩ u).setCell ⟨g, 0, none⟩ (.slice A5 m c5)).setCell ⟨g, 1, none⟩ (.int .i64 (nx3 : Nat))).setCell ⟨g, 2, none⟩ (.bool bd)) A5 m c5 ps :=
    ⟨hlen, own_base_less (own_chg hown hc (fun k hk h => by have := (own_of hown k hk).1; omega)) (by omega), fun p hp => (hN0.els p hp).chg hc (fun k _ hk h => by unfold NB at hk; omega)⟩
  refine ⟨⟨A5, m, c5, ps, nx3, bd, hB, (hZW.chg hC5 (by omega)).chg hc (by omega), hN, fun k hk h => by have := (own_of hown k hk).1; omega, (hCW.then hC5 (fun k hk h => absurd hk (by omega))).then hc (fun k hk h => by omega), hnx, hm, hcs⟩, nxOf_blk hB⟩
set_option maxHeartbeats 16000000 in
set_option maxRecDepth 100000 in
theorem dpart_any {b m : Nat} (hI : DCon b 78 (itemR m)) : DCon b 53 (partR m) := by
  intro A n c qs a R w hb H hR ha hN
  obtain ⟨R0, h0, hok, hbad⟩ : ∃ R0, (itemR m) ((qs.map TP.t).drop a) R0 ∧ (∀ L q, R0 = .ok L q → LoopRd (itemR m) 3 2 L q R) ∧ (∀ q, R0 = .bad q → R = .bad q) := by
    cases hR with
    | @bad q k => exact ⟨.bad q, k, (fun L q e => by cases e), fun q e => e⟩
    | @go L q _ k g => exact ⟨.ok L q, k, (fun L q e => by injection e with e1 e2; subst e1 e2; exact g), fun q e => by cases e⟩
  have hlen : (qs.map TP.t).length = n := by rw [List.length_map, H.len]
  have hIt := hid (fun (w' : World) (hc : Chg Nothing w w') (a' : Nat) (ha' : a' ≤ n) (R1 : PR) (h1 : (itemR m) ((qs.map TP.t).drop a') R1) => hI A n c qs a' R1 w' (Nat.le_trans hb hc.size) (H.calm hc) h1 ha' hN)
  have hK := hid (fun (w' : World) (hc : Chg Nothing w w') (a' : Nat) => kind_any a' a' rfl (H.calm hc))
  have hX := hid ((Chg.refl Nothing w).alloc G0)
  have hZ := hid (Blk.new w #[.slice none 0 0, .int .i64 0, .bool false] 54)
  have hlh := hid hlen
  have h0h := hid h0
  have hokh := hid hok
  have hbadh := hid hbad
  have hf : ∀ ts R, (itemR m) ts R → Fine ts R := fine_item m
  have hfh := hid hf
  clear hlen h0 hok hbad hf hI hR H
  go_enter Try.func53, Try.ntmps53
  go_wp2_with fail
  refine (hIt.out _ hX.out a ha R0 h0h.out).mono ?_
  rintro e w1 ⟨hA, hc1⟩
  obtain ⟨A1, n1, c1, ps1, nx1, bd1, rfl, hO, hn1, hnx1, hax, hcs⟩ := dans_sizes (by rw [hlh.out]; exact hA) (hfh.out _ _ h0h.out) (by rw [hlh.out]; exact ha)
  rw [hlh.out] at hn1 hnx1 hcs
  have hw1 : w.heap.size < w1.heap.size := Nat.lt_of_lt_of_le hZ.out.lt hc1.size
  have hI0 : DInv w b w1.heap.size (n - a) (qs.map TP.t) (itemR m) 3 2 R (w1.alloc (.cells #[.slice A1 n1 c1, .int .i64 (nx1 : Nat), .bool bd1] 54)) := by
    have ha1 := (Chg.refl Nothing w1).alloc (.cells #[.slice A1 n1 c1, .int .i64 (nx1 : Nat), .bool bd1] 54)
    refine ⟨A1, n1, c1, ps1, nx1, bd1, Blk.new w1 _ _, (hZ.out.chg hc1 id).alloc _, (hO.calm ha1).less (by rw [World.size_alloc]; exact Nat.le_refl _), fun k hk h => by have := (own_of hO.own k hk).2; omega, (hX.out.trans hc1).trans ha1, by rw [hlh.out]; exact hnx1, hn1, ?_⟩
    rcases hcs with ⟨h1, h2, h3⟩ | ⟨h1, h2⟩
    · exact .inl ⟨h1, by rw [hlh.out]; omega, hokh.out _ _ h3⟩
    · exact .inr ⟨h1, hbadh.out _ h2⟩
  have hIh := hid hI0
  clear hI0 hO hA hc1 hcs hX hZ hax
  go_wp2
  obtain ⟨g, hg⟩ : ∃ g, g = w1.heap.size := ⟨_, rfl⟩
  rw [← hg] at hIh hw1 ⊢
  replace hg := hid hg
  go_loopw [] (fun wr => DInv w b g (n - a) (qs.map TP.t) (itemR m) 3 2 R wr) (fun wr => n - nxOf g wr)
  case atStart => exact hIh.out
  case round =>
    obtain ⟨A2, n2, c2, ps2, nx, bd, hB, hZ, hO, hof, hC, hnx, hn2, hcs⟩ := hrel
    rw [hlh.out] at hnx hcs
    have x0 := hB.cell 0 (v := .slice A2 n2 c2) rfl
    have x1 := hB.cell 1 (v := .int .i64 nx) rfl
    have x2 := hB.cell 2 (v := .bool bd) rfl
    have hgl := hB.lt
    have z0 := hZ.cell 0 (v := .slice none 0 0) rfl
    have z1 := hZ.cell 1 (v := .int .i64 0) rfl
    have z2 := hZ.cell 2 (v := .bool false) rfl
    have s0 := hZ.free 0
    have s1 := hZ.free 1
    have s2 := hZ.free 2
    have hzl := hZ.lt
    have hBh := hid hB
    have hZh := hid hZ
    have hOh := hid hO
    have hofh := hid hof
    have hCh := hid hC
    clear hB hZ hO hof hC hIh
    rcases hcs with ⟨rfl, hsz, hL⟩ | ⟨rfl, hRe⟩
    · rcases loop_cases hL with ⟨hh, hRe⟩ | ⟨t, r, R1, htr, hk, h1, hok, hbad⟩
      · have hE := hid (dend (bd := false) hb hZh.out hOh.out hCh.out (by rw [hlh.out]; exact hnx) hn2 (.inl ⟨rfl, hRe⟩))
        have hkk := kindD_not (ts := qs.map TP.t) (a := nx) (by decide) hh
        have hKn := hid (hK.out wr hCh.out nx)
        generalize kindD (qs.map TP.t) nx = kd at hKn hkk
        have hk3 : ((kd : Int) == 3) = false := beq_eq_false_iff_ne.2 (by omega)
        clear hL hh hRe hkk
        go_wp2_with fail
        refine (hKn.out).mono ?_
        rintro e w2 ⟨rfl, rfl⟩
        go_wp2
        have hG := hE.out _ rfl
        have r0 := hG.1.cell 0 (v := .slice A2 n2 c2) rfl
        have r1 := hG.1.cell 1 (v := .int .i64 nx) rfl
        have r2 := hG.1.cell 2 (v := .bool false) rfl
        refine bodyPost_ret (v := .agg #[.slice A2 n2 c2, .int .i64 nx, .bool false]) (by simp [results, Try.results53, go_sem, r0, r1, r2]) rfl hG.2
      · have hKn := hid (hK.out wr hCh.out nx)
        rw [kindD_cons htr, hk] at hKn
        have hnxn : nx < n := by
          rcases Nat.lt_or_ge nx n with h | h
          · exact h
          · rw [List.drop_eq_nil_of_le (by rw [hlh.out]; exact h)] at htr; cases htr
        have hdr : (qs.map TP.t).drop (nx + 1) = r := by rw [← List.drop_drop, htr]; rfl
        have h1h := hid h1
        have hok' := hid hok
        have hbad' := hid hbad
        have hdrh := hid hdr
        have hm0 := hid (nxOf_blk hBh.out)
        clear hL hok hbad h1 htr hk hdr
        go_wp2_with fail
        refine (hKn.out).mono ?_
        rintro e w2 ⟨rfl, rfl⟩
        go_wp2_with fail
        rw [show ((nx : Int) + 1) = ((nx + 1 : Nat) : Int) from by omega]
        refine (hIt.out _ hCh.out (nx + 1) hnxn R1 (by rw [hdrh.out]; exact h1h.out)).mono ?_
        rintro e w3 ⟨hA, hc3⟩
        obtain ⟨A3, n3, c3, ps3, nx3, bd3, rfl, hO3, hn3, hnx3, hax3, hcs3⟩ := dans_sizes (by rw [hlh.out]; exact hA) (by rw [hdrh.out]; exact hfh.out _ _ h1h.out) (by rw [hlh.out]; exact hnxn)
        rw [hlh.out] at hn3 hnx3 hcs3
        have hB3 := hid (hBh.out.chg hc3 id)
        have hZ3 := hid (hZh.out.chg hc3 id)
        have hO3' := hid (hOh.out.calm hc3)
        have hN3 := hid hO3
        have hC3 := hid (hCh.out.trans hc3)
        have hcs' := hid hcs3
        have hg3 : g < w3.heap.size := hB3.out.lt
        have hw3 : w.heap.size < w3.heap.size := hZ3.out.lt
        have hgs3 : w.heap.size < w3.heap.size := hw3
        have y0 := hB3.out.cell 0 (v := .slice A2 n2 c2) rfl
        clear hA hO3 hcs3 hc3 x0 x1 x2 z0 z1 z2 s0 s1 s2 hgl hzl hKn hBh hZh hOh hCh h1h
        obtain ⟨W, hW⟩ : ∃ W, W = w3.alloc (.cells #[.slice A3 n3 c3, .int .i64 (nx3 : Nat), .bool bd3] 54) := ⟨_, rfl⟩
        have hcW : Chg Nothing w3 W := by rw [hW]; exact (Chg.refl Nothing w3).alloc _
        have hWs : W.heap.size = w3.heap.size + 1 := by rw [hW, World.size_alloc]
        have hBn := Blk.new w3 #[.slice A3 n3 c3, .int .i64 (nx3 : Nat), .bool bd3] 54
        rw [← hW] at hBn
        have hBnh := hid hBn
        have hBW := hid (hB3.out.chg hcW id)
        have hZW := hid (hZ3.out.chg hcW id)
        have hN2W := hid (hO3'.out.calm hcW)
        have hN3W := hid (hN3.out.calm hcW)
        have hCW := hid (hC3.out.trans hcW)
        have hof3 := hid (show ∀ k, Of A3 k → k < w3.heap.size from fun k hk => (own_of hN3.out.own k hk).2)
        have hof2 := hid (show ∀ k, Of A2 k → k < w3.heap.size from fun k hk => (own_of hO3'.out.own k hk).2)
        have hlW : w3.heap.size < W.heap.size := by omega
        have hgW : g < W.heap.size := by omega
        have hzW : w.heap.size < W.heap.size := by omega
        replace hWs := hid hWs
        have hS := hid (fun (w' : World) (hc : Chg (fun k => W.heap.size ≤ k) W w') => And.intro ((hBW.out.chg hc (by omega)).cell 0 (v := .slice A2 n2 c2) rfl) ((hBnh.out.chg hc (by omega)).cell 0 (v := .slice A3 n3 c3) rfl))
        have y0 := hBW.out.cell 0 (v := .slice A2 n2 c2) rfl
        have y6 := hBn.cell 0 (v := .slice A3 n3 c3) rfl
        have hd := hid ((Chg.refl (fun k => W.heap.size ≤ k) W).drew)
        have hd2 := hid (((Chg.refl (fun k => W.heap.size ≤ k) W).alloc (.cells #[.int .i64 2, .int .i64 0, .slice none 0 0, .int .i64 0] 40)).drew)
        have hG1 := hid (nown_one (b := b) (W := W) ⟨⟨2, 0, [], 0⟩, none, 0, 0⟩ ⟨RowAt.none _ _ _, rfl⟩)
        have hG2 := hid (nown_one (b := b) (W := W.drew) ⟨⟨2, 0, [], 0⟩, none, 0, 0⟩ ⟨RowAt.none _ _ _, rfl⟩)
        have hcsF : (bd3 = false ∧ 1 + n2 + n3 + ((qs.map TP.t).length - nx3) ≤ n - a ∧ LoopRd (itemR m) 3 2 (([⟨⟨2, 0, [], 0⟩, none, 0, 0⟩] ++ ps2 ++ ps3 : List NP).map NP.x) ((qs.map TP.t).drop nx3) R) ∨ (bd3 = true ∧ R = .bad ((qs.map TP.t).drop nx3)) := by
          rcases hcs'.out with ⟨h1, h2, h3⟩ | ⟨h1, h2⟩
          · refine .inl ⟨h1, by rw [hlh.out]; omega, ?_⟩
            have := hok'.out _ _ h3
            rwa [show (([⟨⟨2, 0, [], 0⟩, none, 0, 0⟩] ++ ps2 ++ ps3 : List NP).map NP.x) = ⟨2, 0, [], 0⟩ :: (ps2.map NP.x ++ ps3.map NP.x) from by simp]
          · exact .inr ⟨h1, hbad'.out _ h2⟩
        have hcsFh := hid hcsF
        have hmN := hid (show 1 + n2 + n3 ≤ n - a from by omega)
        have hlen5 := hid (show ([⟨⟨2, 0, [], 0⟩, none, 0, 0⟩] ++ ps2 ++ ps3 : List NP).length = 1 + n2 + n3 from by rw [List.length_append, List.length_append, hN2W.out.len, hN3W.out.len]; rfl)
        have hels5 := hid (show ∀ p ∈ ([⟨⟨2, 0, [], 0⟩, none, 0, 0⟩] ++ ps2 ++ ps3 : List NP), NRead (NB b) W p from fun p hp => by
          rw [List.mem_append, List.mem_append, List.mem_singleton] at hp
          rcases hp with (rfl | hp) | hp
          · exact ⟨RowAt.none _ _ _, rfl⟩
          · exact hN2W.out.els p hp
          · exact hN3W.out.els p hp)
        have hfl5 := hid (show ([⟨⟨2, 0, [], 0⟩, none, 0, 0⟩] ++ ps2 ++ ps3 : List NP).flatMap ndL = List.flatMap ndL [⟨⟨2, 0, [], 0⟩, none, 0, 0⟩] ++ List.flatMap ndL ps2 ++ List.flatMap ndL ps3 from by rw [List.flatMap_append, List.flatMap_append])
        have hmes := hid (show n - nx3 < n - nx from by omega)
        clear hcsF
        have hm1 : 1 + n2 ≤ maxLen := by unfold maxLen; omega
        have hm2 : (1 + n2) * 48 ≤ 140737488355328 := by omega
        have hm3 : 1 + n2 + n3 ≤ maxLen := by unfold maxLen; omega
        have hm4 : (1 + n2 + n3) * 48 ≤ 140737488355328 := by omega
        clear hBn hcW hB3 hZ3 hO3' hN3 hC3
        go_wp2_with fail
        rw [← hW]
        replace hW := hid hW
        go_region_law
          (first
          | (refine step_append_gen (o := ⟨some 29, _, _, _, _, _⟩) rfl _ _ 23 rfl W.heap.size 40 (.agg #[.int .i64 0, .int .i64 0, .slice none 0 0, .int .i64 0]) 4 48 Try.underlying23 infoNd rfl (by decide) _ _ 1 _ rfl (hG1.out.calm (Chg.refl Nothing _).drew).own A2 n2 c2 _ rfl hN2W.out.row.row.len hN2W.out.row.row.nil hN2W.out.row.row.le (rowAt_news (hN2W.out.row.row.chg hd2.out (fun k hk _ h => absurd hk (Nat.not_lt.2 h)))) (flat_one ndL ndL_one _) hm1 hm2 (hd2.out.size) ?_; intro A4 c4 w4 hown4 hc4 hA4; have hC4 := hid (hd2.out.then hc4 (fun k hk ⟨a, e, hk'⟩ => by injection e with e; subst e; simp only at hk'; omega)); have y64 := (hS.out _ hC4.out).2; have hl64 : w3.heap.size < w4.heap.size := Nat.lt_of_lt_of_le hlW hC4.out.size)
          | (refine step_append_gen (o := ⟨some 32, _, _, _, _, _⟩) rfl _ _ 23 rfl W.heap.size 40 (.agg #[.int .i64 0, .int .i64 0, .slice none 0 0, .int .i64 0]) 4 48 Try.underlying23 infoNd rfl (by decide) _ _ (1 + n2) _ rfl hown4 A3 n3 c3 _ rfl hN3W.out.row.row.len hN3W.out.row.row.nil hN3W.out.row.row.le (rowAt_news (hN3W.out.row.row.chg hC4.out (fun k hk _ h => absurd hk (Nat.not_lt.2 h)))) (flat_one ndL ndL_one _) hm3 hm4 (hC4.out.size) ?_; intro A5 c5 w5 hown5 hc5 hA5; have hC5 := hid (hC4.out.then hc5 (fun k hk h => by have := own_of hown4 k h; omega)); have hB5 := hBnh.out.chg hC5.out (Nat.not_le.2 hlW); have f60 := hB5.free 0; have y60 := hB5.cell 0 (v := .slice A3 n3 c3) rfl; have y61 := hB5.cell 1 (v := .int .i64 nx3) rfl; have y62 := hB5.cell 2 (v := .bool bd3) rfl; have hl60 := hB5.lt; have hB6 := hBW.out.chg hC5.out (Nat.not_le.2 hgW); have x50 := hB6.cell 0 (v := .slice A2 n2 c2) rfl; have x51 := hB6.cell 1 (v := .int .i64 nx) rfl; have x52 := hB6.cell 2 (v := .bool false) rfl; have f50 := hB6.free 0; have f51 := hB6.free 1; have f52 := hB6.free 2; have hl50 := hB6.lt; clear hB5 hB6))
        all_goals
          have hD := hid (dstep (u := .slice A5 (1 + n2 + n3) c5) hb hZW.out hBW.out hCW.out hw1 hg3 hlW hC5.out (by rw [hfl5.out]; exact hown5) hlen5.out hels5.out hmN.out (by rw [hlh.out]; exact hnx3) hcsFh.out _ rfl)
          clear hown4 hown5 hc4 hc5 hA4 hA5 hC4 y0 y6
          go_wp2
          go_roundw
          case rel => exact hD.out.1
          case measure => rw [hm0.out, hD.out.2]; exact hmes.out
    · have hE := hid (dend (bd := true) hb hZh.out hOh.out hCh.out (by rw [hlh.out]; exact hnx) hn2 (.inr ⟨rfl, hRe⟩))
      clear hRe
      go_wp2
      have hG := hE.out _ rfl
      have r0 := hG.1.cell 0 (v := .slice A2 n2 c2) rfl
      have r1 := hG.1.cell 1 (v := .int .i64 nx) rfl
      have r2 := hG.1.cell 2 (v := .bool true) rfl
      refine bodyPost_ret (v := .agg #[.slice A2 n2 c2, .int .i64 nx, .bool true]) (by simp [results, Try.results53, go_sem, r0, r1, r2]) rfl hG.2
end Go.Proofs.Ytllblpiakijpaaa

/- Layer 14: the document's Query. (Printed by wip/gen/gen_pde.py.) -/
namespace Go.Proofs.Ytllblpiakijpaaa
open Go.RowKit
set_option linter.unusedVariables false
set_option maxHeartbeats 16000000 in
set_option maxRecDepth 100000 in
theorem dquery_any {b m : Nat} (hI : DCon b 53 (partR m)) : DCon b 32 (queryR m) := by
  intro A n c qs a R w hb H hR ha hN
  obtain ⟨R0, h0, hok, hbad⟩ : ∃ R0, (partR m) ((qs.map TP.t).drop a) R0 ∧ (∀ L q, R0 = .ok L q → LoopRd (partR m) 4 3 L q R) ∧ (∀ q, R0 = .bad q → R = .bad q) := by
    cases hR with
    | @bad q k => exact ⟨.bad q, k, (fun L q e => by cases e), fun q e => e⟩
    | @go L q _ k g => exact ⟨.ok L q, k, (fun L q e => by injection e with e1 e2; subst e1 e2; exact g), fun q e => by cases e⟩
  have hlen : (qs.map TP.t).length = n := by rw [List.length_map, H.len]
  have hIt := hid (fun (w' : World) (hc : Chg Nothing w w') (a' : Nat) (ha' : a' ≤ n) (R1 : PR) (h1 : (partR m) ((qs.map TP.t).drop a') R1) => hI A n c qs a' R1 w' (Nat.le_trans hb hc.size) (H.calm hc) h1 ha' hN)
  have hK := hid (fun (w' : World) (hc : Chg Nothing w w') (a' : Nat) => kind_any a' a' rfl (H.calm hc))
  have hX := hid ((Chg.refl Nothing w).alloc G0)
  have hZ := hid (Blk.new w #[.slice none 0 0, .int .i64 0, .bool false] 54)
  have hlh := hid hlen
  have h0h := hid h0
  have hokh := hid hok
  have hbadh := hid hbad
  have hf : ∀ ts R, (partR m) ts R → Fine ts R := (fun _ _ h => fine_part m h)
  have hfh := hid hf
  clear hlen h0 hok hbad hf hI hR H
  go_enter Try.func32, Try.ntmps32
  go_wp2_with fail
  refine (hIt.out _ hX.out a ha R0 h0h.out).mono ?_
  rintro e w1 ⟨hA, hc1⟩
  obtain ⟨A1, n1, c1, ps1, nx1, bd1, rfl, hO, hn1, hnx1, hax, hcs⟩ := dans_sizes (by rw [hlh.out]; exact hA) (hfh.out _ _ h0h.out) (by rw [hlh.out]; exact ha)
  rw [hlh.out] at hn1 hnx1 hcs
  have hw1 : w.heap.size < w1.heap.size := Nat.lt_of_lt_of_le hZ.out.lt hc1.size
  have hI0 : DInv w b w1.heap.size (n - a) (qs.map TP.t) (partR m) 4 3 R (w1.alloc (.cells #[.slice A1 n1 c1, .int .i64 (nx1 : Nat), .bool bd1] 54)) := by
    have ha1 := (Chg.refl Nothing w1).alloc (.cells #[.slice A1 n1 c1, .int .i64 (nx1 : Nat), .bool bd1] 54)
    refine ⟨A1, n1, c1, ps1, nx1, bd1, Blk.new w1 _ _, (hZ.out.chg hc1 id).alloc _, (hO.calm ha1).less (by rw [World.size_alloc]; exact Nat.le_refl _), fun k hk h => by have := (own_of hO.own k hk).2; omega, (hX.out.trans hc1).trans ha1, by rw [hlh.out]; exact hnx1, hn1, ?_⟩
    rcases hcs with ⟨h1, h2, h3⟩ | ⟨h1, h2⟩
    · exact .inl ⟨h1, by rw [hlh.out]; omega, hokh.out _ _ h3⟩
    · exact .inr ⟨h1, hbadh.out _ h2⟩
  have hIh := hid hI0
  clear hI0 hO hA hc1 hcs hX hZ hax
  go_wp2
  obtain ⟨g, hg⟩ : ∃ g, g = w1.heap.size := ⟨_, rfl⟩
  rw [← hg] at hIh hw1 ⊢
  replace hg := hid hg
  go_loopw [] (fun wr => DInv w b g (n - a) (qs.map TP.t) (partR m) 4 3 R wr) (fun wr => n - nxOf g wr)
  case atStart => exact hIh.out
  case round =>
    obtain ⟨A2, n2, c2, ps2, nx, bd, hB, hZ, hO, hof, hC, hnx, hn2, hcs⟩ := hrel
    rw [hlh.out] at hnx hcs
    have x0 := hB.cell 0 (v := .slice A2 n2 c2) rfl
    have x1 := hB.cell 1 (v := .int .i64 nx) rfl
    have x2 := hB.cell 2 (v := .bool bd) rfl
    have hgl := hB.lt
    have z0 := hZ.cell 0 (v := .slice none 0 0) rfl
    have z1 := hZ.cell 1 (v := .int .i64 0) rfl
    have z2 := hZ.cell 2 (v := .bool false) rfl
    have s0 := hZ.free 0
    have s1 := hZ.free 1
    have s2 := hZ.free 2
    have hzl := hZ.lt
    have hBh := hid hB
    have hZh := hid hZ
    have hOh := hid hO
    have hofh := hid hof
    have hCh := hid hC
    clear hB hZ hO hof hC hIh
    rcases hcs with ⟨rfl, hsz, hL⟩ | ⟨rfl, hRe⟩
    · rcases loop_cases hL with ⟨hh, hRe⟩ | ⟨t, r, R1, htr, hk, h1, hok, hbad⟩
      · have hE := hid (dend (bd := false) hb hZh.out hOh.out hCh.out (by rw [hlh.out]; exact hnx) hn2 (.inl ⟨rfl, hRe⟩))
        have hkk := kindD_not (ts := qs.map TP.t) (a := nx) (by decide) hh
        have hKn := hid (hK.out wr hCh.out nx)
        generalize kindD (qs.map TP.t) nx = kd at hKn hkk
        have hk3 : ((kd : Int) == 4) = false := beq_eq_false_iff_ne.2 (by omega)
        clear hL hh hRe hkk
        go_wp2_with fail
        refine (hKn.out).mono ?_
        rintro e w2 ⟨rfl, rfl⟩
        go_wp2
        have hG := hE.out _ rfl
        have r0 := hG.1.cell 0 (v := .slice A2 n2 c2) rfl
        have r1 := hG.1.cell 1 (v := .int .i64 nx) rfl
        have r2 := hG.1.cell 2 (v := .bool false) rfl
        refine bodyPost_ret (v := .agg #[.slice A2 n2 c2, .int .i64 nx, .bool false]) (by simp [results, Try.results32, go_sem, r0, r1, r2]) rfl hG.2
      · have hKn := hid (hK.out wr hCh.out nx)
        rw [kindD_cons htr, hk] at hKn
        have hnxn : nx < n := by
          rcases Nat.lt_or_ge nx n with h | h
          · exact h
          · rw [List.drop_eq_nil_of_le (by rw [hlh.out]; exact h)] at htr; cases htr
        have hdr : (qs.map TP.t).drop (nx + 1) = r := by rw [← List.drop_drop, htr]; rfl
        have h1h := hid h1
        have hok' := hid hok
        have hbad' := hid hbad
        have hdrh := hid hdr
        have hm0 := hid (nxOf_blk hBh.out)
        clear hL hok hbad h1 htr hk hdr
        go_wp2_with fail
        refine (hKn.out).mono ?_
        rintro e w2 ⟨rfl, rfl⟩
        go_wp2_with fail
        rw [show ((nx : Int) + 1) = ((nx + 1 : Nat) : Int) from by omega]
        refine (hIt.out _ hCh.out (nx + 1) hnxn R1 (by rw [hdrh.out]; exact h1h.out)).mono ?_
        rintro e w3 ⟨hA, hc3⟩
        obtain ⟨A3, n3, c3, ps3, nx3, bd3, rfl, hO3, hn3, hnx3, hax3, hcs3⟩ := dans_sizes (by rw [hlh.out]; exact hA) (by rw [hdrh.out]; exact hfh.out _ _ h1h.out) (by rw [hlh.out]; exact hnxn)
        rw [hlh.out] at hn3 hnx3 hcs3
        have hB3 := hid (hBh.out.chg hc3 id)
        have hZ3 := hid (hZh.out.chg hc3 id)
        have hO3' := hid (hOh.out.calm hc3)
        have hN3 := hid hO3
        have hC3 := hid (hCh.out.trans hc3)
        have hcs' := hid hcs3
        have hg3 : g < w3.heap.size := hB3.out.lt
        have hw3 : w.heap.size < w3.heap.size := hZ3.out.lt
        have hgs3 : w.heap.size < w3.heap.size := hw3
        have y0 := hB3.out.cell 0 (v := .slice A2 n2 c2) rfl
        clear hA hO3 hcs3 hc3 x0 x1 x2 z0 z1 z2 s0 s1 s2 hgl hzl hKn hBh hZh hOh hCh h1h
        obtain ⟨W, hW⟩ : ∃ W, W = w3.alloc (.cells #[.slice A3 n3 c3, .int .i64 (nx3 : Nat), .bool bd3] 54) := ⟨_, rfl⟩
        have hcW : Chg Nothing w3 W := by rw [hW]; exact (Chg.refl Nothing w3).alloc _
        have hWs : W.heap.size = w3.heap.size + 1 := by rw [hW, World.size_alloc]
        have hBn := Blk.new w3 #[.slice A3 n3 c3, .int .i64 (nx3 : Nat), .bool bd3] 54
        rw [← hW] at hBn
        have hBnh := hid hBn
        have hBW := hid (hB3.out.chg hcW id)
        have hZW := hid (hZ3.out.chg hcW id)
        have hN2W := hid (hO3'.out.calm hcW)
        have hN3W := hid (hN3.out.calm hcW)
        have hCW := hid (hC3.out.trans hcW)
        have hof3 := hid (show ∀ k, Of A3 k → k < w3.heap.size from fun k hk => (own_of hN3.out.own k hk).2)
        have hof2 := hid (show ∀ k, Of A2 k → k < w3.heap.size from fun k hk => (own_of hO3'.out.own k hk).2)
        have hlW : w3.heap.size < W.heap.size := by omega
        have hgW : g < W.heap.size := by omega
        have hzW : w.heap.size < W.heap.size := by omega
        replace hWs := hid hWs
        have hS := hid (fun (w' : World) (hc : Chg (fun k => W.heap.size ≤ k) W w') => And.intro ((hBW.out.chg hc (by omega)).cell 0 (v := .slice A2 n2 c2) rfl) ((hBnh.out.chg hc (by omega)).cell 0 (v := .slice A3 n3 c3) rfl))
        have y0 := hBW.out.cell 0 (v := .slice A2 n2 c2) rfl
        have y6 := hBn.cell 0 (v := .slice A3 n3 c3) rfl
        have hd := hid ((Chg.refl (fun k => W.heap.size ≤ k) W).drew)
        have hd2 := hid (((Chg.refl (fun k => W.heap.size ≤ k) W).alloc (.cells #[.int .i64 3, .int .i64 0, .slice none 0 0, .int .i64 0] 40)).drew)
        have hG1 := hid (nown_one (b := b) (W := W) ⟨⟨3, 0, [], 0⟩, none, 0, 0⟩ ⟨RowAt.none _ _ _, rfl⟩)
        have hG2 := hid (nown_one (b := b) (W := W.drew) ⟨⟨3, 0, [], 0⟩, none, 0, 0⟩ ⟨RowAt.none _ _ _, rfl⟩)
        have hcsF : (bd3 = false ∧ 1 + n2 + n3 + ((qs.map TP.t).length - nx3) ≤ n - a ∧ LoopRd (partR m) 4 3 (([⟨⟨3, 0, [], 0⟩, none, 0, 0⟩] ++ ps2 ++ ps3 : List NP).map NP.x) ((qs.map TP.t).drop nx3) R) ∨ (bd3 = true ∧ R = .bad ((qs.map TP.t).drop nx3)) := by
          rcases hcs'.out with ⟨h1, h2, h3⟩ | ⟨h1, h2⟩
          · refine .inl ⟨h1, by rw [hlh.out]; omega, ?_⟩
            have := hok'.out _ _ h3
            rwa [show (([⟨⟨3, 0, [], 0⟩, none, 0, 0⟩] ++ ps2 ++ ps3 : List NP).map NP.x) = ⟨3, 0, [], 0⟩ :: (ps2.map NP.x ++ ps3.map NP.x) from by simp]
          · exact .inr ⟨h1, hbad'.out _ h2⟩
        have hcsFh := hid hcsF
        have hmN := hid (show 1 + n2 + n3 ≤ n - a from by omega)
        have hlen5 := hid (show ([⟨⟨3, 0, [], 0⟩, none, 0, 0⟩] ++ ps2 ++ ps3 : List NP).length = 1 + n2 + n3 from by rw [List.length_append, List.length_append, hN2W.out.len, hN3W.out.len]; rfl)
        have hels5 := hid (show ∀ p ∈ ([⟨⟨3, 0, [], 0⟩, none, 0, 0⟩] ++ ps2 ++ ps3 : List NP), NRead (NB b) W p from fun p hp => by
          rw [List.mem_append, List.mem_append, List.mem_singleton] at hp
          rcases hp with (rfl | hp) | hp
          · exact ⟨RowAt.none _ _ _, rfl⟩
          · exact hN2W.out.els p hp
          · exact hN3W.out.els p hp)
        have hfl5 := hid (show ([⟨⟨3, 0, [], 0⟩, none, 0, 0⟩] ++ ps2 ++ ps3 : List NP).flatMap ndL = List.flatMap ndL [⟨⟨3, 0, [], 0⟩, none, 0, 0⟩] ++ List.flatMap ndL ps2 ++ List.flatMap ndL ps3 from by rw [List.flatMap_append, List.flatMap_append])
        have hmes := hid (show n - nx3 < n - nx from by omega)
        clear hcsF
        have hm1 : 1 + n2 ≤ maxLen := by unfold maxLen; omega
        have hm2 : (1 + n2) * 48 ≤ 140737488355328 := by omega
        have hm3 : 1 + n2 + n3 ≤ maxLen := by unfold maxLen; omega
        have hm4 : (1 + n2 + n3) * 48 ≤ 140737488355328 := by omega
        clear hBn hcW hB3 hZ3 hO3' hN3 hC3
        go_wp2_with fail
        rw [← hW]
        replace hW := hid hW
        go_region_law
          (first
          | (refine step_append_gen (o := ⟨some 29, _, _, _, _, _⟩) rfl _ _ 23 rfl W.heap.size 40 (.agg #[.int .i64 0, .int .i64 0, .slice none 0 0, .int .i64 0]) 4 48 Try.underlying23 infoNd rfl (by decide) _ _ 1 _ rfl (hG1.out.calm (Chg.refl Nothing _).drew).own A2 n2 c2 _ rfl hN2W.out.row.row.len hN2W.out.row.row.nil hN2W.out.row.row.le (rowAt_news (hN2W.out.row.row.chg hd2.out (fun k hk _ h => absurd hk (Nat.not_lt.2 h)))) (flat_one ndL ndL_one _) hm1 hm2 (hd2.out.size) ?_; intro A4 c4 w4 hown4 hc4 hA4; have hC4 := hid (hd2.out.then hc4 (fun k hk ⟨a, e, hk'⟩ => by injection e with e; subst e; simp only at hk'; omega)); have y64 := (hS.out _ hC4.out).2; have hl64 : w3.heap.size < w4.heap.size := Nat.lt_of_lt_of_le hlW hC4.out.size)
          | (refine step_append_gen (o := ⟨some 32, _, _, _, _, _⟩) rfl _ _ 23 rfl W.heap.size 40 (.agg #[.int .i64 0, .int .i64 0, .slice none 0 0, .int .i64 0]) 4 48 Try.underlying23 infoNd rfl (by decide) _ _ (1 + n2) _ rfl hown4 A3 n3 c3 _ rfl hN3W.out.row.row.len hN3W.out.row.row.nil hN3W.out.row.row.le (rowAt_news (hN3W.out.row.row.chg hC4.out (fun k hk _ h => absurd hk (Nat.not_lt.2 h)))) (flat_one ndL ndL_one _) hm3 hm4 (hC4.out.size) ?_; intro A5 c5 w5 hown5 hc5 hA5; have hC5 := hid (hC4.out.then hc5 (fun k hk h => by have := own_of hown4 k h; omega)); have hB5 := hBnh.out.chg hC5.out (Nat.not_le.2 hlW); have f60 := hB5.free 0; have y60 := hB5.cell 0 (v := .slice A3 n3 c3) rfl; have y61 := hB5.cell 1 (v := .int .i64 nx3) rfl; have y62 := hB5.cell 2 (v := .bool bd3) rfl; have hl60 := hB5.lt; have hB6 := hBW.out.chg hC5.out (Nat.not_le.2 hgW); have x50 := hB6.cell 0 (v := .slice A2 n2 c2) rfl; have x51 := hB6.cell 1 (v := .int .i64 nx) rfl; have x52 := hB6.cell 2 (v := .bool false) rfl; have f50 := hB6.free 0; have f51 := hB6.free 1; have f52 := hB6.free 2; have hl50 := hB6.lt; clear hB5 hB6))
        all_goals
          have hD := hid (dstep (u := .slice A5 (1 + n2 + n3) c5) hb hZW.out hBW.out hCW.out hw1 hg3 hlW hC5.out (by rw [hfl5.out]; exact hown5) hlen5.out hels5.out hmN.out (by rw [hlh.out]; exact hnx3) hcsFh.out _ rfl)
          clear hown4 hown5 hc4 hc5 hA4 hA5 hC4 y0 y6
          go_wp2
          go_roundw
          case rel => exact hD.out.1
          case measure => rw [hm0.out, hD.out.2]; exact hmes.out
    · have hE := hid (dend (bd := true) hb hZh.out hOh.out hCh.out (by rw [hlh.out]; exact hnx) hn2 (.inr ⟨rfl, hRe⟩))
      clear hRe
      go_wp2
      have hG := hE.out _ rfl
      have r0 := hG.1.cell 0 (v := .slice A2 n2 c2) rfl
      have r1 := hG.1.cell 1 (v := .int .i64 nx) rfl
      have r2 := hG.1.cell 2 (v := .bool true) rfl
      refine bodyPost_ret (v := .agg #[.slice A2 n2 c2, .int .i64 nx, .bool true]) (by simp [results, Try.results32, go_sem, r0, r1, r2]) rfl hG.2
end Go.Proofs.Ytllblpiakijpaaa

/- Layer 14: the document's bracket, Text. -/
namespace Go.Proofs.Ytllblpiakijpaaa
open Go.RowKit
set_option linter.unusedVariables false
attribute [local go_sem ↓] Go.wp_at_zero Go.wp_at_succ
theorem sgn_1 : sgnS 1 = ⟨#[40]⟩ := by decide +kernel
theorem sgn_2 : sgnS 2 = ⟨#[41]⟩ := by decide +kernel
theorem sgn_5 : sgnS 5 = ⟨#[33]⟩ := by decide +kernel
theorem sgn_6 : sgnS 6 = ⟨#[62]⟩ := by decide +kernel
theorem sgn_7 : sgnS 7 = ⟨#[126]⟩ := by decide +kernel
theorem sgn_and : blankS ++ (sgnS 3 ++ blankS) = ⟨#[32, 38, 32]⟩ := by decide +kernel
theorem sgn_or : blankS ++ (sgnS 4 ++ blankS) = ⟨#[32, 124, 32]⟩ := by decide +kernel
set_option maxHeartbeats 4000000 in
set_option maxRecDepth 100000 in
theorem dbracket_any (bb : Bool) (u : ByteArray) (w : World) (hu : u.size ≤ 9000000000000000000) : Calls Try.prog 66 #[.bool bb, .string u] w fun e w' => e = .returned (.string (br bb u)) ∧ w' = w := by
  have h1 : (⟨#[40]⟩ : ByteArray).size = 1 := rfl
  have h2 : (⟨#[41]⟩ : ByteArray).size = 1 := rfl
  have he := hid (show br true u = ⟨#[40]⟩ ++ u ++ ⟨#[41]⟩ from by unfold br; rw [if_pos rfl, sgn_1, sgn_2])
  cases bb with
  | true =>
    rw [he.out]
    go_enter Try.func66, Try.ntmps66
    go_wp2
    go_ret
    exact ⟨rfl, rfl⟩
  | false =>
    go_enter Try.func66, Try.ntmps66
    go_wp2
    go_ret
    exact ⟨rfl, rfl⟩
theorem drop_head {L : List Nd} {k : Nat} {x : Nd} {r : List Nd} (h : L.drop k = x :: r) : k < L.length ∧ L.drop (k + 1) = r ∧ ∀ d, L.getD k d = x := by
  have hk : k < L.length := by
    rcases Nat.lt_or_ge k L.length with h' | h'
    · exact h'
    · rw [List.drop_eq_nil_of_le h'] at h; cases h
  rw [List.drop_eq_getElem_cons hk] at h
  injection h with h1 h2
  exact ⟨hk, h2, fun d => by simp [hk, h1]⟩
theorem NRow.node {F : Nat → Prop} {w : World} {A : Option Addr} {n c : Nat} {ps : List NP} {k : Nat} {x : Nd} {r : List Nd} (H : NRow F w A n c ps) (h : (ps.map NP.x).drop k = x :: r) :
    ∃ g o p, A = some ⟨g, o, none⟩ ∧ g < w.heap.size ∧ k < n ∧ p.x = x ∧ NRead F w p ∧ (ps.map NP.x).drop (k + 1) = r ∧ w.cell? ⟨g, o + k * 4, none⟩ = some (.int .i64 x.kind) ∧ w.cell? ⟨g, o + k * 4 + 1, none⟩ = some (.int .i64 x.n) ∧ w.cell? ⟨g, o + k * 4 + 2, none⟩ = some (.slice p.A p.l p.c) ∧ w.cell? ⟨g, o + k * 4 + 3, none⟩ = some (.int .i64 x.K) := by
  obtain ⟨h1, h2, h3⟩ := drop_head h
  rw [List.length_map, H.len] at h1
  obtain ⟨g, o, p, rfl, -, hgl, hp, hm, hR, c0, c1, c2, c3⟩ := H.four h1
  have hpx : p.x = x := by
    have := h3 np0.x
    have hl : k < ps.length := by rw [H.len]; exact h1
    rw [← this, hp]
    simp [hl]
  rw [hpx] at c0 c1 c3
  exact ⟨g, o, p, rfl, hgl, h1, hpx, hR, h2, c0, c1, c2, c3⟩
/-- The tree at a place of a row is told. -/
def DTx (t : GT) : Prop := ∀ (F : Nat → Prop) (A : Option Addr) (n c : Nat) (ps : List NP) (a : Nat) (rest : List Nd) (w : World), NRow F w A n c ps → (ps.map NP.x).drop a = t.flat ++ rest → n ≤ 1000000 →
  Calls Try.prog 45 #[.slice A n c, .int .i64 (a : Nat)] w fun e w' => e = .returned (.tuple #[.string t.text, .int .i64 ((a + t.flat.length : Nat) : Int)]) ∧ Chg Nothing w w'
set_option maxHeartbeats 8000000 in
set_option maxRecDepth 100000 in
theorem dtext_leaf (x : Nd) (hr : (GT.leaf x).right) : DTx (.leaf x) := by
  intro F A n c ps a rest w H hd hn
  have hx := nodeB_leaf (x := x) hr.root hr.1
  obtain ⟨g, o, p, rfl, hgl, han, hpx, hR, hdr, c0, c1, c2, c3⟩ := H.node (show (ps.map NP.x).drop a = x :: rest from hd)
  have hle := H.row.le
  have hmx := H.row.max
  have hk : x.kind = 1 := hr.1
  rw [hk] at c0
  have hrow := hid hR.row
  have hlen := hid hR.len
  rw [hpx] at hrow hlen
  have han' : (a : Int) < (n : Int) := by omega
  have ha0 : (0 : Int) ≤ (a : Int) := by omega
  have ha9 : (a : Int) < 1000000 := by omega
  have hB := Blk.new w #[.int .i64 1, .int .i64 x.n, .slice p.A p.l p.c, .int .i64 x.K] 40
  have hC0 := hid ((Chg.refl Nothing w).alloc (.cells #[.int .i64 1, .int .i64 x.n, .slice p.A p.l p.c, .int .i64 x.K] 40))
  have hBh := hid hB
  have hxx := hid hx
  have hK64 := hxx.out.2.2
  have htxt := hid (show (GT.leaf x).text = leafT x from rfl)
  have hfl := hid (show ((a + (GT.leaf x).flat.length : Nat) : Int) = (a : Int) + 1 from by simp [GT.flat])
  rw [htxt.out, hfl.out]
  have hpt : (patT x.p).size ≤ 2000000 := printS_size (pat_print hxx.out.2.1)
  have hpr := hid (fun (w' : World) (hc : Chg Nothing w w') => by
    have := refPrint_any F 8 0 0 p.A p.l p.c x.p w' (hrow.out.chg hc (fun _ _ _ h => h)) hlen.out
    rw [show printV (printS 8 0 x.p) = #[.string (patT x.p), .bool true] from by rw [pat_print hxx.out.2.1]; rfl] at this
    exact this)
  clear H hd hdr hR hpx hr hx hk hB
  by_cases hK : 0 < x.K
  · obtain ⟨kk, hkk⟩ : ∃ kk : Nat, x.K = kk := ⟨x.K.toNat, by omega⟩
    have hE := hid (show leafT x = patT x.p ++ ⟨#[126]⟩ ++ decS kk from by unfold leafT; rw [if_pos hK, sgn_7, hkk, Int.toNat_natCast, ByteArray.append_assoc])
    rw [hE.out]
    have hdg := hid (fun w => refDigits_any kk (by omega) w)
    have hds := decS_size kk
    rw [← hkk] at hdg
    have hk64 : kk ≤ 64 := by omega
    replace hkk := hid hkk
    generalize decS kk = u7 at hdg hds ⊢
    generalize patT x.p = u8 at hpr hpt ⊢
    have e1 : ¬ (9223372036854775807 < u8.size + 1) := by omega
    have e2 : ¬ (9223372036854775807 < u8.size + 1 + u7.size) := by omega
    clear hds hpt
    go_enter Try.func45, Try.ntmps45
    go_wp2_with fail
    refine (hpr.out _ hC0.out).mono ?_
    rintro e w1 ⟨rfl, hc1⟩
    have hB1 := hBh.out.chg hc1 id
    have y3 := hB1.cell 3 (v := .int .i64 x.K) rfl
    have hlt := hB1.lt
    have hC1 := hid (hC0.out.trans hc1)
    clear hc1 hBh hC0 hB1 c0 c1 c2 c3
    go_wp2_with fail
    refine (hdg.out _).mono ?_
    rintro e w2 ⟨rfl, rfl⟩
    clear y3 hlt
    go_wp2
    refine bodyPost_ret (v := .tuple #[.string (u8 ++ ⟨#[126]⟩ ++ u7), .int .i64 ((a : Int) + 1)]) (by simp [results, Try.results45, go_sem]) rfl ⟨rfl, hC1.out⟩
  · have hE := hid (show leafT x = patT x.p from if_neg hK)
    rw [hE.out]
    obtain hkk : x.K = 0 := by omega
    simp only [hkk] at hBh hC0 c3
    generalize patT x.p = u8 at hpr hpt ⊢
    go_enter Try.func45, Try.ntmps45
    go_wp2_with fail
    refine (hpr.out _ hC0.out).mono ?_
    rintro e w1 ⟨rfl, hc1⟩
    have hB1 := hBh.out.chg hc1 id
    have y3 := hB1.cell 3 (v := .int .i64 0) rfl
    have hlt := hB1.lt
    have hC1 := hid (hC0.out.trans hc1)
    clear hc1 hBh hC0 hB1 c0 c1 c2 c3
    go_wp2
    refine bodyPost_ret (v := .tuple #[.string u8, .int .i64 ((a : Int) + 1)]) (by simp [results, Try.results45, go_sem]) rfl ⟨rfl, hC1.out⟩
end Go.Proofs.Ytllblpiakijpaaa

/- Layer 14: the document's parser whole: item, part, Query. -/
namespace Go.Proofs.Ytllblpiakijpaaa
open Go.RowKit
set_option linter.unusedVariables false
theorem ditem_any {b : Nat} (m : Nat) : DCon b 78 (itemR m) := by
  induction m with
  | zero => intro A n c qs a R w _ _ hR; exact hR.elim
  | succ m ih =>
    have hq := dquery_any (dpart_any ih)
    intro A n c qs a R w hb H hR ha hN
    rw [itemR_succ] at hR
    generalize hts : (qs.map TP.t).drop a = ts at hR
    cases hR with
    | @notOk t r q L h k => exact ditem_not a hb H hts h hN ih k (fun L' q' e => by injection e with e1 e2; subst e1 e2; rfl) (fun q' e => by cases e)
    | @notBad t r q h k => exact ditem_not a hb H hts h hN ih k (fun L' q' e => by cases e) (fun q' e => by injection e with e1; subst e1; rfl)
    | @shiftOk t r q L h k => exact ditem_shift a hb H hts h hN ih k (fun L' q' e => by injection e with e1 e2; subst e1 e2; rfl) (fun q' e => by cases e)
    | @shiftBad t r q h k => exact ditem_shift a hb H hts h hN ih k (fun L' q' e => by cases e) (fun q' e => by injection e with e1; subst e1; rfl)
    | @fuzzBad t u r h hu hn =>
      have := ditem_pat a hb H hts h hN
      unfold findR at this
      simp only at this
      rwa [if_pos hu, if_pos hn] at this
    | @fuzz t u r h hu hn =>
      have := ditem_pat a hb H hts h hN
      unfold findR at this
      simp only at this
      rwa [if_pos hu, if_neg (by omega)] at this
    | @pat t r h hr =>
      have := ditem_pat a hb H hts h hN
      rwa [findR_none hr] at this
    | @openOk t u r q L h k hu => exact ditem_open a hb H hts h hN hq k (fun L' u' q' e _ => by injection e with e1 e2; injection e2 with e2 e3; subst e1 e3; rfl) (fun L' q' e hh => by injection e with e1 e2; exact absurd hu (hh u q (by rw [← e2]))) (fun q' e => by cases e)
    | @openBad t r q h k => exact ditem_open a hb H hts h hN hq k (fun L' u' q' e _ => by cases e) (fun L' q' e hh => by cases e) (fun q' e => by injection e with e1; subst e1; rfl)
    | @openMiss t r q L h k hm => exact ditem_open a hb H hts h hN hq k (fun L' u' q' e hu => by injection e with e1 e2; exact absurd hu (hm u' q' e2)) (fun L' q' e hh => by injection e with e1 e2; subst e2; rfl) (fun q' e => by cases e)
    | other h5 h6 h8 h1 =>
      subst hts
      exact ditem_other a H ha h5 h6 h8 h1
theorem dquery_all {b : Nat} (m : Nat) : DCon b 32 (queryR m) := dquery_any (dpart_any (ditem_any m))
end Go.Proofs.Ytllblpiakijpaaa

/- Layer 14: the document's Parse. -/
namespace Go.Proofs.Ytllblpiakijpaaa
open Go.RowKit
set_option linter.unusedVariables false
set_option maxHeartbeats 8000000 in
set_option maxRecDepth 100000 in
theorem refParse_lex (s : ByteArray) (a : Nat) (no : Int) (h : lexS s (.bad a no)) (h0 : no ≠ 0) (w : World) (hs : s.size ≤ 9223372036854775000) :
    Calls Try.prog 12 #[.string s] w (ParseAns [] a no w) := by
  have hb : (no != 0) = true := by rw [bne_iff_ne]; exact h0
  have hL := hid (refLex_any s _ h · hs)
  clear h h0
  go_enter Try.func12, Try.ntmps12
  go_wp2_with fail
  refine (hL.out w).mono ?_
  rintro e w1 ⟨A, n, c, ps, rfl, -, -, -, hc1⟩
  simp only [Rd.at_, Rd.no]
  go_wp2
  refine bodyPost_ret (v := .tuple #[.slice none 0 0, .int .i64 a, .int .i64 no]) (by simp [results, Try.results12, go_sem]) rfl (parse_no rfl hc1)
set_option maxHeartbeats 8000000 in
set_option maxRecDepth 100000 in
theorem refParse_toks (s : ByteArray) (ts : List Tok) (nx0 : Nat) (R : PR) (L : List Nd) (a no : Int) (h : lexS s (.ok ts nx0)) (h1 : queryR (ts.length + 1) ts R) (h2 : QEnd (s.size : Nat) R L a no) (w : World) (hs : s.size ≤ 9223372036854775000) :
    Calls Try.prog 12 #[.string s] w (ParseAns L a no w) := by
  have hcount := lexS_count h ts nx0 rfl
  have hL := hid (refLex_any s _ h · hs)
  have h1' := hid h1
  have h2' := hid h2
  clear h h1 h2
  go_enter Try.func12, Try.ntmps12
  go_wp2_with fail
  refine (hL.out w).mono ?_
  rintro e w1 ⟨A, n, c, ps, rfl, hT, hl, -, hc1⟩
  simp only [Rd.at_, Rd.no]
  have hts := hl _ _ rfl
  have hP := hid (show TRead (NB w1.heap.size) w1 A n c ps from ⟨hT.len, (RowAt.of_own hT.own).mono (fun k hk _ => hk), fun p hp => ⟨(hT.els p hp).row.mono (fun k hk _ => hk), (hT.els p hp).len⟩⟩)
  have hlen : ts.length = n := by rw [← hts, List.length_map, hT.len]
  have hc1' := hid hc1
  clear hT hl hc1 hL
  go_wp2_with fail
  have hDQ := dquery_all (b := w1.heap.size) (ts.length + 1) A n c ps 0 R w1 (Nat.le_refl _) hP.out (by rw [hts]; exact h1'.out) (Nat.zero_le _) (by omega)
  rw [hts] at hDQ
  refine hDQ.mono ?_
  rintro e w2 ⟨hA, hc2⟩
  obtain ⟨A2, m, c2, ps2, nx, bd, rfl, hO, hm, hnx, -, hcs⟩ := dans_sizes (a := 0) (by rw [hlen]; exact hA) (fine_query _ h1'.out) (Nat.zero_le _)
  rw [hlen] at hm hnx hcs
  have hC2 := hid (hc1'.out.trans hc2)
  have hO2 := hid hO.row
  have hT2 := hid (hP.out.calm hc2)
  have hcs2 := hid hcs
  have hmx := hP.out.row.max
  have hnc := hP.out.row.le
  clear hA hc2 hc1' hDQ h1' hO hcs hP
  have hnx0 : (0 : Int) ≤ (nx : Int) := by omega
  have hnx9 : (nx : Int) ≤ 1000 := by omega
  rcases Nat.lt_or_ge nx n with hlt | hge
  · obtain ⟨g, o, p, r, rfl, hgl, -, hd, -, c1, -, -⟩ := hT2.out.at_ hlt
    have hdr : ts.drop nx = p.t :: r.map TP.t := by rw [← hts, ← List.map_drop, hd]; rfl
    have hfin : L = [] ∧ a = p.t.at_ ∧ no = 140 := by
      have h2 := h2'.out
      rcases hcs2.out with ⟨-, -, hR⟩ | ⟨-, hR⟩
      · rw [hR, hdr] at h2; exact h2
      · rw [hR, hdr] at h2; exact h2
    obtain ⟨rfl, rfl, rfl⟩ := hfin
    have hlti : (nx : Int) < (n : Int) := by omega
    clear hdr hd h2' hcs2 hts hlen
    cases bd with
    | true =>
      go_wp2
      refine bodyPost_ret (v := .tuple #[.slice none 0 0, .int .i64 p.t.at_, .int .i64 140]) (by simp [results, Try.results12, go_sem]) rfl (parse_no rfl (hC2.out.alloc _))
    | false =>
      go_wp2
      refine bodyPost_ret (v := .tuple #[.slice none 0 0, .int .i64 p.t.at_, .int .i64 140]) (by simp [results, Try.results12, go_sem]) rfl (parse_no rfl (hC2.out.alloc _))
  · obtain rfl : nx = n := by omega
    have hdr : ts.drop nx = [] := List.drop_eq_nil_of_le (by omega)
    have hlti : decide ((nx : Int) < (nx : Int)) = false := decide_eq_false (by omega)
    cases bd with
    | true =>
      have hfin : L = [] ∧ a = ((s.size : Nat) : Int) ∧ no = 140 := by
        have h2 := h2'.out
        have hR := hcs2.out
        simp only [Bool.true_eq_false, false_and, false_or, true_and] at hR
        rw [hR, hdr] at h2; exact h2
      obtain ⟨rfl, rfl, rfl⟩ := hfin
      clear hdr h2' hcs2 hts hlen
      go_wp2
      refine bodyPost_ret (v := .tuple #[.slice none 0 0, .int .i64 ((s.size : Nat) : Int), .int .i64 140]) (by simp [results, Try.results12, go_sem]) rfl (parse_no rfl (hC2.out.alloc _))
    | false =>
      have hQ : QEnd ((s.size : Nat) : Int) (.ok (ps2.map NP.x) []) L a no := by
        have h2 := h2'.out
        have hR := hcs2.out
        simp only [true_and, Bool.false_eq_true, false_and, or_false] at hR
        rw [hR.2, hdr] at h2; exact h2
      have hal : Chg Nothing w2 (w2.alloc (.cells #[.slice A2 m c2, .int .i64 (nx : Nat), .bool false] 54)) := (Chg.refl Nothing w2).alloc _
      have hD := hid (refDepth_any (fun _ => True) A2 m c2 ps2 _ (hO2.out.calm hal) (by omega))
      have hLl : (ps2.map NP.x).length = m := by rw [List.length_map, hO2.out.len]
      simp only [QEnd, hLl] at hQ
      have hQh := hid hQ
      generalize depthN (ps2.map NP.x) = dd at hQh hD
      have hCa := hid (hC2.out.trans hal)
      replace hal := hid hal
      clear hcs2 h2' hdr hts hlen hQ
      rcases hQh.out with ⟨hbig, rfl, rfl, rfl⟩ | ⟨hbig, hdeep, rfl, rfl, rfl⟩ | ⟨hbig, hdeep, rfl, rfl, rfl⟩
      · have hb : (64 : Int) < (m : Int) := by omega
        clear hD hQh
        go_wp2
        refine bodyPost_ret (v := .tuple #[.slice none 0 0, .int .i64 0, .int .i64 142]) (by simp [results, Try.results12, go_sem]) rfl (parse_no rfl hCa.out)
      · have hb : decide ((64 : Int) < (m : Int)) = false := decide_eq_false (by omega)
        have hd : (16 : Int) < (dd : Int) := by omega
        clear hQh
        go_wp2_with fail
        refine (hD.out).mono ?_
        rintro e w3 ⟨rfl, hc3⟩
        have hC3 := hid (hCa.out.trans hc3)
        clear hc3
        go_wp2
        refine bodyPost_ret (v := .tuple #[.slice none 0 0, .int .i64 0, .int .i64 141]) (by simp [results, Try.results12, go_sem]) rfl (parse_no rfl hC3.out)
      · have hb : decide ((64 : Int) < (m : Int)) = false := decide_eq_false (by omega)
        have hd : decide ((16 : Int) < (dd : Int)) = false := decide_eq_false (by omega)
        clear hQh
        go_wp2_with fail
        refine (hD.out).mono ?_
        rintro e w3 ⟨rfl, hc3⟩
        have hB3 := (Blk.new w2 #[.slice A2 m c2, .int .i64 (nx : Nat), .bool false] 54).chg hc3 id
        have z0 := hB3.cell 0 (v := .slice A2 m c2) rfl
        have zl := hB3.lt
        have hC3 := hid (hCa.out.trans hc3)
        have hN := hid ((hO2.out.calm hal.out).calm hc3)
        clear hc3 hB3
        go_wp2
        refine bodyPost_ret (v := .tuple #[.slice A2 m c2, .int .i64 ((s.size : Nat) : Int), .int .i64 0]) (by simp [results, Try.results12, go_sem]) rfl ⟨A2, m, c2, ps2, rfl, hN.out, rfl, hC3.out⟩
theorem refParse_any (s : ByteArray) (L : List Nd) (a no : Int) (h : ParseR s L a no) (w : World) (hs : s.size ≤ 9223372036854775000) : Calls Try.prog 12 #[.string s] w (ParseAns L a no w) := by
  cases h with
  | lex h h0 => exact refParse_lex s _ _ h h0 w hs
  | toks h h1 h2 => exact refParse_toks s _ _ _ _ _ _ h h1 h2 w hs
end Go.Proofs.Ytllblpiakijpaaa

/- Layer 14: the document's Text at a node of trees; Print. -/
namespace Go.Proofs.Ytllblpiakijpaaa
open Go.RowKit
set_option linter.unusedVariables false
attribute [local go_sem ↓] Go.wp_at_zero Go.wp_at_succ
set_option maxHeartbeats 8000000 in
set_option maxRecDepth 100000 in
theorem dtext_one (x : Nd) (u : GT) (hr : (GT.one x u).right) (ih : DTx u) : DTx (.one x u) := by
  intro F A n c ps a rest w H hd hn
  obtain ⟨g, o, p, rfl, hgl, han, hpx, hR, hdr, c0, c1, c2, c3⟩ := H.node (show (ps.map NP.x).drop a = x :: (u.flat ++ rest) from hd)
  have hle := H.row.le
  have hmx := H.row.max
  obtain ⟨r, hrt⟩ := u.flat_head
  obtain ⟨g', o', p2, e2, -, han2, hpx2, -, -, d0, -, -, -⟩ := H.node (show (ps.map NP.x).drop (a + 1) = u.root :: (r ++ rest) from by rw [hdr, hrt]; rfl)
  injection e2 with e2
  injection e2 with e2 e3
  subst e2 e3
  have hIh := hid (fun (w' : World) (hc : Chg Nothing w w') => ih F (some ⟨g, o, none⟩) n c ps (a + 1) rest w' (H.calm hc) hdr hn)
  have hx4 := hr.root
  have hone := hr.1.1
  have hsz := text_size u hr.one
  have hul : u.flat.length ≤ n := by
    have := congrArg List.length hdr
    rw [List.length_drop, List.length_map, H.len, List.length_append] at this; omega
  have hus : u.text.size ≤ 5000000000000 := by omega
  have hbx := br_size (isBin u.root) u.text
  have hBh := hid (Blk.new w #[.int .i64 x.kind, .int .i64 x.n, .slice p.A p.l p.c, .int .i64 x.K] 40)
  have hC0 := hid ((Chg.refl Nothing w).alloc (.cells #[.int .i64 x.kind, .int .i64 x.n, .slice p.A p.l p.c, .int .i64 x.K] 40))
  have d0' : (w.alloc (.cells #[.int .i64 x.kind, .int .i64 x.n, .slice p.A p.l p.c, .int .i64 x.K] 40)).cell? ⟨g, o + (a + 1) * 4, none⟩ = some (.int .i64 u.root.kind) := (World.cell?_of_block (w := w) (hC0.out.block g hgl id)).trans d0
  have hfl := hid (show ((a + (GT.one x u).flat.length : Nat) : Int) = (((a + 1) + u.flat.length : Nat) : Int) from by simp [GT.flat]; omega)
  have htx := hid (show (GT.one x u).text = oneT x ++ br (isBin u.root) u.text from rfl)
  rw [htx.out, hfl.out]
  have han' : (a : Int) < (n : Int) := by omega
  have han1 : (a : Int) + 1 < (n : Int) := by omega
  have ha0 : (0 : Int) ≤ (a : Int) := by omega
  have ha9 : (a : Int) < 1000000 := by omega
  have ha1 := hid (show (a : Int) + 1 = ((a + 1 : Nat) : Int) from by omega)
  have hbin := hid (show isBin u.root = (u.root.kind == 2 || u.root.kind == 3) from by
    unfold isBin
    by_cases h2 : u.root.kind = 2
    · rw [h2]; rfl
    · by_cases h3 : u.root.kind = 3
      · rw [h3]; rfl
      · rw [decide_eq_false (by omega), beq_eq_false_iff_ne.2 h2, beq_eq_false_iff_ne.2 h3]; rfl)
  have hbr := hid (fun (w : World) => dbracket_any (isBin u.root) u.text w (by omega))
  have hbsz : (br (isBin u.root) u.text).size ≤ 5000000000014 := by omega
  have hnn := hr.root.2.2.1
  have hn00 := hr.root.2.1
  simp only [GT.root] at hnn hn00
  obtain ⟨q, hq⟩ : ∃ q : Nat, q = (a + 1) + u.flat.length := ⟨_, rfl⟩
  rw [← hq] at hIh hfl ⊢
  replace hq := hid hq
  generalize u.text = s0 at hIh hbr hbsz hus htx ⊢
  generalize br (isBin u.root) s0 = s1 at hbr hbsz htx ⊢
  generalize isBin u.root = bb at hbr hbin
  generalize u.root.kind = uk at d0 d0' hbin
  have hzs : Hid ((w.heap.size : Nat) < w.heap.size + 1) := hid (Nat.lt_succ_self _)
  clear H hd hdr hR hpx hr hx4 hsz hul hbx hpx2 hrt ih d0
  rcases hone with hk | hk
  · have hE := hid (show oneT x ++ s1 = ⟨#[33]⟩ ++ s1 from by unfold oneT; rw [if_pos hk, sgn_5])
    rw [hE.out]
    rw [hk] at c0 hBh hC0 d0'
    have e1 : ¬ (9223372036854775807 < 1 + s1.size) := by omega
    clear hE htx hk
    go_enter Try.func45, Try.ntmps45
    go_wp2_with fail
    rw [ha1.out]
    refine (hIh.out _ hC0.out).mono ?_
    rintro e w1 ⟨rfl, hc1⟩
    have hB1 := hBh.out.chg hc1 id
    have y0 := hB1.cell 0 (v := .int .i64 4) rfl
    have hlt := hB1.lt
    have hC1 := hid (hC0.out.trans hc1)
    clear hc1 hBh hC0 hB1 c0 c1 c2 c3 d0' hIh
    by_cases h2 : uk = 2
    · have h2' : (uk == 2) = true := beq_iff_eq.2 h2
      obtain rfl : bb = true := by rw [hbin.out, h2']; rfl
      go_wp2_with fail
      refine (hbr.out _).mono ?_
      rintro e w2 ⟨rfl, rfl⟩
      go_wp2
      refine bodyPost_ret (v := .tuple #[.string (⟨#[33]⟩ ++ s1), .int .i64 (q : Nat)]) (by simp [results, Try.results45, go_sem]) rfl ⟨rfl, hC1.out⟩
    · have h2' : (uk == 2) = false := beq_eq_false_iff_ne.2 h2
      have h3' : (uk == 3) = bb := by rw [hbin.out, h2']; rfl
      go_wp2_with fail
      refine (hbr.out _).mono ?_
      rintro e w2 ⟨rfl, rfl⟩
      go_wp2
      refine bodyPost_ret (v := .tuple #[.string (⟨#[33]⟩ ++ s1), .int .i64 (q : Nat)]) (by simp [results, Try.results45, go_sem]) rfl ⟨rfl, hC1.out⟩
  · obtain ⟨kk, hkk⟩ : ∃ kk : Nat, x.n = kk := ⟨x.n.toNat, by omega⟩
    have hE := hid (show oneT x ++ s1 = ⟨#[62]⟩ ++ decS kk ++ s1 from by unfold oneT; rw [if_neg (by omega), sgn_6, hkk, Int.toNat_natCast])
    rw [hE.out]
    rw [hk] at c0 hBh hC0 d0'
    have hdg := hid (fun w => refDigits_any kk (by omega) w)
    have hds := decS_size kk
    rw [← hkk] at hdg
    have hds2 : (decS kk).size ≤ 1000001 := by omega
    generalize decS kk = u7 at hdg hds2 hE ⊢
    have e1 : ¬ (9223372036854775807 < 1 + u7.size) := by omega
    have e2 : ¬ (9223372036854775807 < 1 + u7.size + s1.size) := by omega
    clear hE htx hk hds hkk hds2
    go_enter Try.func45, Try.ntmps45
    go_wp2_with fail
    rw [ha1.out]
    refine (hIh.out _ hC0.out).mono ?_
    rintro e w1 ⟨rfl, hc1⟩
    have hB1 := hBh.out.chg hc1 id
    have y0 := hB1.cell 0 (v := .int .i64 5) rfl
    have y1 := hB1.cell 1 (v := .int .i64 x.n) rfl
    have hlt := hB1.lt
    have hC1 := hid (hC0.out.trans hc1)
    clear hc1 hBh hC0 hB1 c0 c1 c2 c3 d0' hIh
    by_cases h2 : uk = 2
    · have h2' : (uk == 2) = true := beq_iff_eq.2 h2
      obtain rfl : bb = true := by rw [hbin.out, h2']; rfl
      go_wp2_with fail
      refine (hdg.out _).mono ?_
      rintro e w2 ⟨rfl, rfl⟩
      go_wp2_with fail
      refine (hbr.out _).mono ?_
      rintro e w2 ⟨rfl, rfl⟩
      go_wp2
      refine bodyPost_ret (v := .tuple #[.string (⟨#[62]⟩ ++ u7 ++ s1), .int .i64 (q : Nat)]) (by simp [results, Try.results45, go_sem]) rfl ⟨rfl, hC1.out⟩
    · have h2' : (uk == 2) = false := beq_eq_false_iff_ne.2 h2
      have h3' : (uk == 3) = bb := by rw [hbin.out, h2']; rfl
      go_wp2_with fail
      refine (hdg.out _).mono ?_
      rintro e w2 ⟨rfl, rfl⟩
      go_wp2_with fail
      refine (hbr.out _).mono ?_
      rintro e w2 ⟨rfl, rfl⟩
      go_wp2
      refine bodyPost_ret (v := .tuple #[.string (⟨#[62]⟩ ++ u7 ++ s1), .int .i64 (q : Nat)]) (by simp [results, Try.results45, go_sem]) rfl ⟨rfl, hC1.out⟩
end Go.Proofs.Ytllblpiakijpaaa

/- Layer 14: the document's Text at a node of two trees; Print. -/
namespace Go.Proofs.Ytllblpiakijpaaa
open Go.RowKit
set_option linter.unusedVariables false
attribute [local go_sem ↓] Go.wp_at_zero Go.wp_at_succ
set_option maxHeartbeats 32000000 in
set_option maxRecDepth 100000 in
theorem dtext_two (x : Nd) (u v : GT) (hr : (GT.two x u v).right) (ihu : DTx u) (ihv : DTx v) : DTx (.two x u v) := by
  intro F A n c ps a rest w H hd hn
  obtain ⟨g, o, p, rfl, hgl, han, hpx, hR, hdr, c0, c1, c2, c3⟩ := H.node (show (ps.map NP.x).drop a = x :: (u.flat ++ v.flat ++ rest) from hd)
  rw [List.append_assoc] at hdr
  have hle := H.row.le
  have hmx := H.row.max
  obtain ⟨r, hrt⟩ := u.flat_head
  obtain ⟨r', hrt'⟩ := v.flat_head
  have hdr2 : (ps.map NP.x).drop (a + 1 + u.flat.length) = v.flat ++ rest := by rw [← List.drop_drop, hdr, List.drop_append, List.drop_length, Nat.sub_self]; rfl
  obtain ⟨g', o', p2, e2, -, han2, hpx2, -, -, d0, -, -, -⟩ := H.node (show (ps.map NP.x).drop (a + 1) = u.root :: (r ++ (v.flat ++ rest)) from by rw [hdr, hrt]; rfl)
  injection e2 with e2
  injection e2 with e2 e3
  subst e2 e3
  obtain ⟨g', o', p3, e2, -, han3, hpx3, -, -, f0, -, -, -⟩ := H.node (show (ps.map NP.x).drop (a + 1 + u.flat.length) = v.root :: (r' ++ rest) from by rw [hdr2, hrt']; rfl)
  injection e2 with e2
  injection e2 with e2 e3
  subst e2 e3
  have hIu := hid (fun (w' : World) (hc : Chg Nothing w w') => ihu F (some ⟨g, o, none⟩) n c ps (a + 1) (v.flat ++ rest) w' (H.calm hc) hdr hn)
  have hIv := hid (fun (w' : World) (hc : Chg Nothing w w') => ihv F (some ⟨g, o, none⟩) n c ps (a + 1 + u.flat.length) rest w' (H.calm hc) hdr2 hn)
  have htwo := hr.1.1
  have hsu := text_size u hr.left
  have hsv := text_size v hr.right
  have hul : u.flat.length ≤ n := by omega
  have hvl : v.flat.length ≤ n := by
    have := congrArg List.length hdr2
    rw [List.length_drop, List.length_map, H.len, List.length_append] at this; omega
  have hbu := br_size (isOr u.root) u.text
  have hbv := br_size (isBin v.root) v.text
  have hbv3 := br_size (isOr v.root) v.text
  have hBh := hid (Blk.new w #[.int .i64 x.kind, .int .i64 x.n, .slice p.A p.l p.c, .int .i64 x.K] 40)
  have hC0 := hid ((Chg.refl Nothing w).alloc (.cells #[.int .i64 x.kind, .int .i64 x.n, .slice p.A p.l p.c, .int .i64 x.K] 40))
  have d0' : (w.alloc (.cells #[.int .i64 x.kind, .int .i64 x.n, .slice p.A p.l p.c, .int .i64 x.K] 40)).cell? ⟨g, o + (a + 1) * 4, none⟩ = some (.int .i64 u.root.kind) := (World.cell?_of_block (w := w) (hC0.out.block g hgl id)).trans d0
  have hF0 := hid (fun (w' : World) (hc : Chg Nothing w w') => (World.cell?_of_block (w := w) (hc.block g hgl id)).trans f0)
  have hgL := hid (fun (w' : World) (hc : Chg Nothing w w') => Nat.lt_of_lt_of_le hgl hc.size)
  have hfl := hid (show ((a + (GT.two x u v).flat.length : Nat) : Int) = (((a + 1 + u.flat.length) + v.flat.length : Nat) : Int) from by simp [GT.flat]; omega)
  have htx := hid (show (GT.two x u v).text = if x.kind = 2 then br (isOr u.root) u.text ++ blankS ++ sgnS 3 ++ blankS ++ br (isBin v.root) v.text else u.text ++ blankS ++ sgnS 4 ++ blankS ++ br (isOr v.root) v.text from rfl)
  rw [htx.out, hfl.out]
  have han' : (a : Int) < (n : Int) := by omega
  have han1 : (a : Int) + 1 < (n : Int) := by omega
  have ha0 : (0 : Int) ≤ (a : Int) := by omega
  have ha9 : (a : Int) < 1000000 := by omega
  have ha1 := hid (show (a : Int) + 1 = ((a + 1 : Nat) : Int) from by omega)
  have hbin : ∀ y : Nd, isBin y = (y.kind == 2 || y.kind == 3) := fun y => by
    unfold isBin
    by_cases h2 : y.kind = 2
    · rw [h2]; rfl
    · by_cases h3 : y.kind = 3
      · rw [h3]; rfl
      · rw [decide_eq_false (by omega), beq_eq_false_iff_ne.2 h2, beq_eq_false_iff_ne.2 h3]; rfl
  have hor : ∀ y : Nd, isOr y = (y.kind == 3) := fun y => by
    unfold isOr
    by_cases h3 : y.kind = 3
    · rw [h3]; rfl
    · rw [decide_eq_false h3, beq_eq_false_iff_ne.2 h3]
  have hbrU := hid (fun (w : World) => dbracket_any (isOr u.root) u.text w (by omega))
  have hbrV := hid (fun (w : World) => dbracket_any (isBin v.root) v.text w (by omega))
  have hbrV3 := hid (fun (w : World) => dbracket_any (isOr v.root) v.text w (by omega))
  have hU3 := hid (hor u.root)
  have hV3 := hid (hor v.root)
  have hVB := hid (hbin v.root)
  obtain ⟨q, hq⟩ : ∃ q : Nat, q = a + 1 + u.flat.length := ⟨_, rfl⟩
  rw [← hq] at hIu hIv hfl hF0 han3 ⊢
  obtain ⟨q2, hq2⟩ : ∃ q2 : Nat, q2 = q + v.flat.length := ⟨_, rfl⟩
  rw [← hq2] at hIv hfl ⊢
  replace hq := hid hq
  replace hq2 := hid hq2
  have hzu : u.text.size ≤ 5000000000000 := by omega
  have hzU : (br (isOr u.root) u.text).size ≤ 5000000000014 := by omega
  have hzV : (br (isBin v.root) v.text).size ≤ 5000000000014 := by omega
  have hzV3 : (br (isOr v.root) v.text).size ≤ 5000000000014 := by omega
  generalize u.text = s0 at hIu hbrU hzu hzU htx ⊢
  generalize v.text = s1 at hIv hbrV hbrV3 hzV hzV3 htx ⊢
  generalize br (isOr u.root) s0 = t0 at hbrU hzU htx ⊢
  generalize br (isBin v.root) s1 = t1 at hbrV hzV htx ⊢
  generalize br (isOr v.root) s1 = t3 at hbrV3 hzV3 htx ⊢
  generalize isOr u.root = b0 at hbrU hU3
  generalize isBin v.root = b1 at hbrV hVB
  generalize isOr v.root = b3 at hbrV3 hV3
  generalize u.root.kind = uk at d0' hU3
  generalize v.root.kind = vk at hF0 hV3 hVB
  have hq0 : (0 : Int) ≤ (q : Int) := by omega
  have hqn : (q : Int) < (n : Int) := by omega
  obtain ⟨k2, hk2⟩ : ∃ k2, (uk == 2) = k2 := ⟨_, rfl⟩
  obtain ⟨l2, hl2⟩ : ∃ l2, (vk == 2) = l2 := ⟨_, rfl⟩
  have hu3 : (uk == 3) = b0 := hU3.out.symm
  have hv3 : (vk == 3) = b3 := hV3.out.symm
  clear H hd hdr hdr2 hR hpx hr hsu hsv hul hvl hbu hbv hbv3 hpx2 hpx3 hrt hrt' ihu ihv d0 f0 hbin hor han2 han3 hU3 hV3
  have hvb : b1 = (l2 || b3) := by rw [hVB.out, hl2, hv3]
  clear hVB
  rcases htwo with hk | hk
  · have hE := hid (show t0 ++ blankS ++ sgnS 3 ++ blankS ++ t1 = t0 ++ ⟨#[32, 38, 32]⟩ ++ t1 from by rw [← sgn_and]; simp only [ByteArray.append_assoc])
    rw [if_pos hk, hE.out]
    rw [hk] at c0 hBh hC0 d0'
    have e1 : ¬ (9223372036854775807 < t0.size + 3) := by omega
    have e2 : ¬ (9223372036854775807 < t0.size + 3 + t1.size) := by omega
    clear hE htx hk hzu hzU hzV hzV3
    cases k2 <;> cases l2 <;> subst hvb
    all_goals
      go_enter Try.func45, Try.ntmps45
      go_wp2_with fail
      rw [ha1.out]
      refine (hIu.out _ hC0.out).mono ?_
      rintro e w1 ⟨rfl, hc1⟩
      have hB1 := hid (hBh.out.chg hc1 id)
      have y0 := hB1.out.cell 0 (v := .int .i64 2) rfl
      have hlt := hB1.out.lt
      have hC1 := hid (hC0.out.trans hc1)
      have f1 := hF0.out _ hC1.out
      have hg1 := hgL.out _ hC1.out
      clear hc1
      go_wp2_with fail
      refine (hIv.out _ hC1.out).mono ?_
      rintro e w2 ⟨rfl, hc2⟩
      have hB2 := hid (hB1.out.chg hc2 id)
      have z0 := hB2.out.cell 0 (v := .int .i64 2) rfl
      have hlt2 := hB2.out.lt
      have hC2 := hid (hC1.out.trans hc2)
      clear hc2 y0 hlt f1 hg1
      go_wp2_with fail
      refine (hbrU.out _).mono ?_
      rintro e w3 ⟨rfl, rfl⟩
      go_wp2_with fail
      refine (hbrV.out _).mono ?_
      rintro e w3 ⟨rfl, rfl⟩
      go_wp2
      refine bodyPost_ret (v := .tuple #[.string (t0 ++ ⟨#[32, 38, 32]⟩ ++ t1), .int .i64 (q2 : Nat)]) (by simp [results, Try.results45, go_sem]) rfl ⟨rfl, hC2.out⟩
  · have hE := hid (show s0 ++ blankS ++ sgnS 4 ++ blankS ++ t3 = s0 ++ ⟨#[32, 124, 32]⟩ ++ t3 from by rw [← sgn_or]; simp only [ByteArray.append_assoc])
    rw [if_neg (by omega), hE.out]
    rw [hk] at c0 hBh hC0 d0'
    have e1 : ¬ (9223372036854775807 < s0.size + 3) := by omega
    have e2 : ¬ (9223372036854775807 < s0.size + 3 + t3.size) := by omega
    clear hE htx hk hzu hzU hzV hzV3
    cases k2
    all_goals
      go_enter Try.func45, Try.ntmps45
      go_wp2_with fail
      rw [ha1.out]
      refine (hIu.out _ hC0.out).mono ?_
      rintro e w1 ⟨rfl, hc1⟩
      have hB1 := hid (hBh.out.chg hc1 id)
      have y0 := hB1.out.cell 0 (v := .int .i64 3) rfl
      have hlt := hB1.out.lt
      have hC1 := hid (hC0.out.trans hc1)
      have f1 := hF0.out _ hC1.out
      have hg1 := hgL.out _ hC1.out
      clear hc1
      go_wp2_with fail
      refine (hIv.out _ hC1.out).mono ?_
      rintro e w2 ⟨rfl, hc2⟩
      have hB2 := hid (hB1.out.chg hc2 id)
      have z0 := hB2.out.cell 0 (v := .int .i64 3) rfl
      have hlt2 := hB2.out.lt
      have hC2 := hid (hC1.out.trans hc2)
      clear hc2 y0 hlt f1 hg1
      go_wp2_with fail
      refine (hbrV3.out _).mono ?_
      rintro e w3 ⟨rfl, rfl⟩
      go_wp2
      refine bodyPost_ret (v := .tuple #[.string (s0 ++ ⟨#[32, 124, 32]⟩ ++ t3), .int .i64 (q2 : Nat)]) (by simp [results, Try.results45, go_sem]) rfl ⟨rfl, hC2.out⟩
theorem dtext_any (t : GT) : t.right → DTx t := by
  induction t with
  | leaf x => intro h; exact dtext_leaf x h
  | one x a ih => intro h; exact dtext_one x a h (ih h.one)
  | two x a b iha ihb => intro h; exact dtext_two x a b h (iha h.left) (ihb h.right)
set_option maxHeartbeats 4000000 in
set_option maxRecDepth 100000 in
theorem refPrint14_no (F : Nat → Prop) (A : Option Addr) (n c : Nat) (ps : List NP) (w : World) (H : NRow F w A n c ps) (hn : n ≤ 1000000) (hr : rightN (ps.map NP.x) = false) :
    Calls Try.prog 26 #[.slice A n c] w fun e w' => e = .returned (.tuple #[.string ByteArray.empty, .bool false]) ∧ Chg Nothing w w' := by
  have hR := hid (refRight_any F A n c ps w H hn)
  rw [hr] at hR
  clear H hr
  go_enter Try.func26, Try.ntmps26
  go_wp2_with fail
  refine (hR.out).mono ?_
  rintro e w1 ⟨rfl, hc1⟩
  go_wp2
  refine bodyPost_ret (v := .tuple #[.string ByteArray.empty, .bool false]) (by simp [results, Try.results26, go_sem]; rfl) rfl ⟨rfl, hc1⟩
set_option maxHeartbeats 4000000 in
set_option maxRecDepth 100000 in
theorem refPrint14_yes (F : Nat → Prop) (A : Option Addr) (n c : Nat) (ps : List NP) (t : GT) (w : World) (H : NRow F w A n c ps) (hn : n ≤ 1000000) (hr : rightN (ps.map NP.x) = true) (ht : t.right) (hps : ps.map NP.x = t.flat) :
    Calls Try.prog 26 #[.slice A n c] w fun e w' => e = .returned (.tuple #[.string t.text, .bool true]) ∧ Chg Nothing w w' := by
  have hR := hid (refRight_any F A n c ps w H hn)
  rw [hr] at hR
  have hW := hid (fun (w' : World) (hc : Chg Nothing w w') => dtext_any t ht F A n c ps 0 [] w' (H.calm hc) (by rw [List.drop_zero, List.append_nil]; exact hps) hn)
  obtain ⟨q, hq⟩ : ∃ q : Nat, q = 0 + t.flat.length := ⟨_, rfl⟩
  rw [← hq] at hW
  replace hq := hid hq
  generalize t.text = u at hW ⊢
  clear H hr ht hps
  go_enter Try.func26, Try.ntmps26
  go_wp2_with fail
  refine (hR.out).mono ?_
  rintro e w1 ⟨rfl, hc1⟩
  have hC1 := hid hc1
  clear hc1
  go_wp2_with fail
  refine (hW.out _ hC1.out).mono ?_
  rintro e w2 ⟨rfl, hc2⟩
  have hC2 := hid (hC1.out.trans hc2)
  clear hc2
  go_wp2
  refine bodyPost_ret (v := .tuple #[.string u, .bool true]) (by simp [results, Try.results26, go_sem]) rfl ⟨rfl, hC2.out⟩
end Go.Proofs.Ytllblpiakijpaaa
