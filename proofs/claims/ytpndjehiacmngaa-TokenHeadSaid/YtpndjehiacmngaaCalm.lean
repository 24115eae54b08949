/- Regions that draw their order, whose operations read and whose callees make memory alone: one walk in the order of the text serves every order. No program. -/
import Derived.Test.YtpndjehiacmngaaLib
import Derived.Deep.QuietTactic
import Derived.BigQuiet
namespace Go.Proofs.Ytpndjehiacmngaa
open Go.RowKit
/-- A world in which nothing of w has turned. -/
structure Calm (w : World) where
  val : World
  chg : Chg Nothing w val
instance (w : World) : Nonempty (Calm w) := ⟨⟨w, Chg.refl _ _⟩⟩
theorem Calm.cell {w : World} {g o : Nat} {v : Value} (hg : g < w.heap.size) (h : w.cell? ⟨g, o, none⟩ = some v) : ∀ n : Calm w, n.val.cell? ⟨g, o, none⟩ = some v :=
  fun n => (World.cell?_of_block (w := w) (n.chg.block g hg id)).trans h
theorem wp_region_calm_lit {P : Program} {id : Nat} {Q : Exit → Act → World → Prop} {a : Act} {w : World} {l : List Oper} (hm : P.follows .mixedOrders = true) (hB : Region.lexB .any l.toArray = true)
    (h : wpQuiet P l.toArray (fun w' => ∃ n : Calm w, w' = n.val) (fun a' => ∀ w', (∃ n : Calm w, w' = n.val) → Q .normal a' w') l a) : (Code.region id l.toArray true).wp P Q a w :=
  wp_region_quiet (C := fun w' => ∃ n : Calm w, w' = n.val) hm hB ⟨⟨_, (Chg.refl Nothing w).drew⟩, rfl⟩ (by simpa using h)
/-- A callee's contract, met in such a world. -/
theorem calm_of {P : Program} {f : FuncId} {args : Array Value} {w : World} {n : Calm w} {v : Value}
    (h : Calls P f args n.val fun e w' => e = .returned v ∧ Chg Nothing n.val w') : Calls P f args n.val fun e w'' => e = .returned v ∧ ∃ m : Calm w, w'' = m.val :=
  h.mono fun _ w'' ⟨he, hc⟩ => ⟨he, ⟨w'', n.chg.trans hc⟩, rfl⟩
theorem calm_same {P : Program} {f : FuncId} {args : Array Value} {w : World} {n : Calm w} {v : Value}
    (h : Calls P f args n.val fun e w' => e = .returned v ∧ w' = n.val) : Calls P f args n.val fun e w'' => e = .returned v ∧ ∃ m : Calm w, w'' = m.val :=
  h.mono fun _ _ ⟨he, hc⟩ => ⟨he, n, hc⟩
theorem calm_same' {P : Program} {f : FuncId} {args : Array Value} {w : World} {n : Calm w} {v : Value}
    (h : Calls P f args n.val fun e w' => e = .returned v ∧ n.val = w') : Calls P f args n.val fun e w'' => e = .returned v ∧ ∃ m : Calm w, w'' = m.val :=
  h.mono fun _ _ ⟨he, hc⟩ => ⟨he, n, hc.symm⟩
/-- A step from such a world to another one. -/
theorem Calm.step {w w0 w' : World} (h0 : Chg Nothing w w0) (h : Chg Nothing w0 w') : ∃ m : Calm w, m.val = w' := ⟨⟨w', h0.trans h⟩, rfl⟩
end Go.Proofs.Ytpndjehiacmngaa
