/- A scope with several labels to which the run jumps. No program. -/
import Derived.Test.YtpndjehiacmngaaLibB
import Derived.Scope
namespace Go.Proofs.Ytpndjehiacmngaa
open Go.RowKit
theorem wpList_forget (I : World → Prop) {P : Program} {ops : Array Oper} {rest : List Oper} {a : Act} {w : World} {Q : Exit → Act → World → Prop} (h : I w) (k : ∀ W, I W → wpList P ops Q rest a W) : wpList P ops Q rest a w := k w h
/-! ### A scope with several labels -/
/-- As Q; by a goto to label l: J l. -/
def jumps (J : Nat → Act → World → Prop) (Q : Exit → Act → World → Prop) : Exit → Act → World → Prop
  | .goto l, a, w => J l a w
  | e, a, w => Q e a w
theorem wp_scope_labels {P : Program} {a : Act} {w : World} {Q : Exit → Act → World → Prop} {c : Code} (rest : Nat → Code) (J : Nat → Act → World → Prop) (μ : Nat → Act → World → Nat)
    (hf : ∀ l a w, J l a w → findLabel c l = some (rest l)) (first : c.wp P (jumps J Q) a w)
    (pass : ∀ l a w, J l a w → (rest l).wp P (jumps (fun l' a' w' => J l' a' w' ∧ μ l' a' w' < μ l a w) Q) a w) : (Code.scope c).wp P Q a w := by
  intro b k cs
  have hg : ∀ l a w, J l a w → gotoIn l (.inScope c :: k) = some (.code (rest l) :: .inScope c :: k) := fun l a w hJ => by simp [gotoIn, hf l a w hJ]
  have key : ∀ n l a w, μ l a w = n → J l a w → ∃ e a' w', Q e a' w' ∧ Arrives P (lone (b.at a (.code (rest l) :: .inScope c :: k)) cs w) b k cs e a' w' := by
    intro n
    induction n using Nat.strongRecOn with
    | _ n ih =>
      intro l a w hn hJ
      obtain ⟨e, a₁, w₁, hq, harr⟩ := pass l a w hJ b (.inScope c :: k) cs
      cases e with
      | normal => exact ⟨.normal, a₁, w₁, hq, Steps.trans harr (.one step_inScope)⟩
      | exit id => exact ⟨.exit id, a₁, w₁, hq, fun k' hk => harr k' (by simp [exitTo, hk])⟩
      | goto l' =>
        obtain ⟨hJ', hlt⟩ := hq
        obtain ⟨e₂, a₂, w₂, hq₂, harr₂⟩ := ih _ (by omega) l' a₁ w₁ rfl hJ'
        exact ⟨e₂, a₂, w₂, hq₂, .of_steps (harr _ (hg l' a₁ w₁ hJ')) harr₂⟩
      | ret => exact ⟨_, a₁, w₁, hq, harr⟩
      | panic ch => exact ⟨_, a₁, w₁, hq, harr⟩
      | outgrown => exact ⟨_, a₁, w₁, hq, harr⟩
  obtain ⟨e, a₁, w₁, hq, harr⟩ := first b (.inScope c :: k) cs
  cases e with
  | normal => exact ⟨.normal, a₁, w₁, hq, .head step_scope (Steps.trans harr (.one step_inScope))⟩
  | exit id => exact ⟨.exit id, a₁, w₁, hq, fun k' hk => .head step_scope (harr k' (by simp [exitTo, hk]))⟩
  | goto l' =>
    obtain ⟨e₂, a₂, w₂, hq₂, harr₂⟩ := key _ l' a₁ w₁ rfl hq
    exact ⟨e₂, a₂, w₂, hq₂, .of_steps (.head step_scope (harr _ (hg l' a₁ w₁ hq))) harr₂⟩
  | ret => exact ⟨_, a₁, w₁, hq, .of_steps (.one step_scope) harr⟩
  | panic ch => exact ⟨_, a₁, w₁, hq, .of_steps (.one step_scope) harr⟩
  | outgrown => exact ⟨_, a₁, w₁, hq, .of_steps (.one step_scope) harr⟩
theorem jumps_mono {J J' : Nat → Act → World → Prop} {Q : Exit → Act → World → Prop} (h : ∀ l a w, J l a w → J' l a w) : ∀ (e : Exit) (a : Act) (w : World), jumps J Q e a w → jumps J' Q e a w := fun e a w hj => by
  cases e <;> first | exact h _ _ _ hj | exact hj
theorem wp_skip_seq {P : Program} {a : Act} {w : World} {Q : Exit → Act → World → Prop} {c : Code} (h : c.wp P Q a w) : (Code.skip.seq c).wp P Q a w := by
  refine wp_seq ?_
  refine wp_skip ?_
  exact h
/-- Two labels: l, to which the run goes back; d, at the way out. 'first' is told that from l on all is shown. -/
theorem wp_scope_two {P : Program} {a : Act} {w : World} {Q : Exit → Act → World → Prop} {c rl rd : Code} (l d : Nat) (J D : Act → World → Prop) (μ : Act → World → Nat) (hl : findLabel c l = some (Code.skip.seq rl)) (hd : findLabel c d = some rd) (hne : l ≠ d)
    (pass : ∀ a w, J a w → rl.wp P (jumps (fun l' a' w' => (l' = l ∧ J a' w' ∧ μ a' w' < μ a w) ∨ (l' = d ∧ D a' w')) Q) a w)
    (done : ∀ a w, D a w → rd.wp P (jumps (fun _ _ _ => False) Q) a w)
    (first : (∀ a w, J a w → rl.wp P (jumps (fun l' a' w' => (l' = l ∧ J a' w') ∨ (l' = d ∧ D a' w')) Q) a w) → c.wp P (jumps (fun l' a' w' => (l' = l ∧ J a' w') ∨ (l' = d ∧ D a' w')) Q) a w) : (Code.scope c).wp P Q a w := by
  refine wp_scope_labels (fun l' => if l' = l then Code.skip.seq rl else rd) (fun l' a' w' => (l' = l ∧ J a' w') ∨ (l' = d ∧ D a' w')) (fun l' a' w' => if l' = l then μ a' w' + 1 else 0) ?_ ?_ ?_
  · rintro l' a' w' (⟨rfl, _⟩ | ⟨rfl, _⟩)
    · rw [if_pos rfl]; exact hl
    · rw [if_neg (fun e => hne e.symm)]; exact hd
  · refine first fun a' w' hJ => Code.wp_mono (jumps_mono ?_) (pass a' w' hJ)
    rintro l' a2 w2 (⟨h1, h2, _⟩ | h)
    · exact .inl ⟨h1, h2⟩
    · exact .inr h
  · rintro l' a' w' (⟨rfl, hJ⟩ | ⟨rfl, hD⟩)
    · rw [if_pos rfl]
      refine Code.wp_mono (jumps_mono ?_) (wp_skip_seq (pass a' w' hJ))
      rintro l2 a2 w2 (⟨rfl, h2, h3⟩ | ⟨rfl, h⟩)
      · exact ⟨.inl ⟨rfl, h2⟩, by rw [if_pos rfl, if_pos rfl]; omega⟩
      · exact ⟨.inr ⟨rfl, h⟩, by rw [if_neg (fun e => hne e.symm), if_pos rfl]; omega⟩
    · rw [if_neg (fun e => hne e.symm)]
      exact Code.wp_mono (jumps_mono fun _ _ _ h => h.elim) (done a' w' hD)
/-- One label. -/
theorem wp_scope_one {P : Program} {a : Act} {w : World} {Q : Exit → Act → World → Prop} {c rl : Code} (l : Nat) (J : Act → World → Prop) (μ : Act → World → Nat) (hl : findLabel c l = some (Code.skip.seq rl))
    (pass : ∀ a w, J a w → rl.wp P (jumps (fun l' a' w' => l' = l ∧ J a' w' ∧ μ a' w' < μ a w) Q) a w)
    (first : (∀ a w, J a w → rl.wp P (jumps (fun l' a' w' => l' = l ∧ J a' w') Q) a w) → c.wp P (jumps (fun l' a' w' => l' = l ∧ J a' w') Q) a w) : (Code.scope c).wp P Q a w := by
  refine wp_scope_labels (fun _ => Code.skip.seq rl) (fun l' a' w' => l' = l ∧ J a' w') (fun _ a' w' => μ a' w') ?_ ?_ ?_
  · rintro l' a' w' ⟨rfl, _⟩; exact hl
  · refine first fun a' w' hJ => Code.wp_mono (jumps_mono ?_) (pass a' w' hJ)
    rintro l' a2 w2 ⟨h1, h2, _⟩; exact ⟨h1, h2⟩
  · rintro l' a' w' ⟨rfl, hJ⟩
    refine Code.wp_mono (jumps_mono ?_) (wp_skip_seq (pass a' w' hJ))
    rintro l2 a2 w2 ⟨rfl, h2, h3⟩; exact ⟨⟨rfl, h2⟩, h3⟩
end Go.Proofs.Ytpndjehiacmngaa
