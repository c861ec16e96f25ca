/- A region that draws its order, whose operations only read and whose callees only make memory: one walk in the text's order. Over any program. -/
import Derived.Test.YtlnjemdnmndnfaaKit
namespace Go.Proofs.Ytlnjemdnmndnfaa.K
set_option linter.unusedVariables false
set_option linter.unusedSimpArgs false
open Go.RowKit

/-! ### a region that draws its order, whose operations read and whose callees only make memory: one walk -/
structure Later (w : World) where
  x : World
  t : Turn [] w x
instance (w : World) : Nonempty (Later w) := ⟨⟨w, Turn.refl _ _⟩⟩
@[go_sem] theorem Later.cell {w : World} (n : Later w) (b o : Nat) (h : b < w.heap.size) : n.x.cell? ⟨b, o, none⟩ = w.cell? ⟨b, o, none⟩ := n.t.cells0.1 b o h
@[go_sem] theorem Later.frozen {w : World} (n : Later w) (b o : Nat) (h : b < w.heap.size) : n.x.frozen? ⟨b, o, none⟩ = w.frozen? ⟨b, o, none⟩ := n.t.cells0.2 b o h
theorem wp_region_later {P : Program} {id : Nat} {Q : Exit → Act → World → Prop} {a : Act} {w0 w : World} {l : List Oper} (hT : Turn [] w0 w) (hm : P.follows .mixedOrders = true) (hB : Region.lexB .any l.toArray = true)
    (h : wpQuiet P l.toArray (fun w' => ∃ n : Later w0, w' = n.x) (fun a' => ∀ w', (∃ n : Later w0, w' = n.x) → Q .normal a' w') l a) : (Code.region id l.toArray true).wp P Q a w :=
  wp_region_quiet (C := fun w' => ∃ n : Later w0, w' = n.x) hm hB ⟨⟨_, hT.drew⟩, rfl⟩ (by simpa using h)
theorem later_out {w0 w' : World} (h : ∃ n : Later w0, w' = n.x) : Turn [] w0 w' := by obtain ⟨n, rfl⟩ := h; exact n.t
theorem calls_later {P : Program} {f : FuncId} {args : Array Value} {w0 : World} {n : Later w0} {v : Value} (h : Calls P f args n.x fun e w' => e = .returned v ∧ Turn [] n.x w') :
    Calls P f args n.x fun e w'' => e = .returned v ∧ ∃ m : Later w0, w'' = m.x :=
  h.mono fun _ w' ⟨he, ht⟩ => ⟨he, ⟨w', n.t.trans0 ht⟩, rfl⟩
theorem calls_later_same {P : Program} {f : FuncId} {args : Array Value} {w0 : World} {n : Later w0} {v : Value} (h : Calls P f args n.x fun e w' => e = .returned v ∧ n.x = w') :
    Calls P f args n.x fun e w'' => e = .returned v ∧ ∃ m : Later w0, w'' = m.x :=
  h.mono fun _ w' ⟨he, ht⟩ => ⟨he, n, ht.symm⟩
end Go.Proofs.Ytlnjemdnmndnfaa.K
