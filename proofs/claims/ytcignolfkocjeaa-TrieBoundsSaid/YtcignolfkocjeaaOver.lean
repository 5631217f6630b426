/- A region that draws its order, whose operations read, and whose callees read and make memory of their own: one walk in the order of the text serves every order. -/
import Derived.Test.YtcignolfkocjeaaBase
set_option linter.unusedVariables false
set_option linter.unusedSimpArgs false
namespace Go.Proofs.Ytcignolfkocjeaa
open Go.RowKit Go.Proofs.YtcignolfkocjeaaW.PrintWords

/-- A world over this one: nothing that was there has turned. -/
structure Over (w : World) where
  W : World
  h : Below w.heap.size w W
instance (w : World) : Nonempty (Over w) := ⟨⟨w, Below.refl _ _⟩⟩
theorem wp_region_over {P : Program} {id : Nat} {Q : Exit → Act → World → Prop} {a : Act} {w : World} {l : List Oper} (hm : P.follows .mixedOrders = true) (hB : Region.lexB .any l.toArray = true)
    (h : wpQuiet P l.toArray (fun w' => ∃ t : Over w, w' = t.W) (fun a' => ∀ w', (∃ t : Over w, w' = t.W) → Q .normal a' w') l a) : (Code.region id l.toArray true).wp P Q a w :=
  wp_region_quiet (C := fun w' => ∃ t : Over w, w' = t.W) hm hB ⟨⟨_, below_drew (Below.refl _ _)⟩, rfl⟩ (by simpa using h)
theorem calls_over {P : Program} {f : FuncId} {args : Array Value} {w : World} {t : Over w} {v : Value} (h : Calls P f args t.W fun e w' => e = .returned v ∧ Below t.W.heap.size t.W w') :
    Calls P f args t.W fun e w'' => e = .returned v ∧ ∃ s : Over w, w'' = s.W := h.mono fun e w' ⟨he, hb⟩ => ⟨he, ⟨w', below_next t.h hb⟩, rfl⟩
theorem over_cell {w : World} {a : Addr} {v : Value} (h : w.cell? a = some v) (t : Over w) : t.W.cell? a = some v := pw_cell_below t.h h
end Go.Proofs.Ytcignolfkocjeaa
