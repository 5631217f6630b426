/- Base words of this seat's proofs: facts laid aside, predicates on elements, the first place at which one holds. -/
import Derived.Test.YtcignolfkocjeaaProg
import Derived.WalkKit
import Derived.KernelRfl
import Derived.Deep.LoopGhost
import Derived.Deep.QuietTactic
import Derived.BigQuiet
import Derived.Shelf.Abstract
import Derived.Test.YtcignolfkocjeaaWWords
set_option linter.unusedVariables false
set_option linter.unusedSimpArgs false
namespace Go.Proofs.Ytcignolfkocjeaa
open Go.RowKit Go.Proofs.YtcignolfkocjeaaW.PrintWords

theorem aside {p : Prop} (h : p) : Aside p := h

/-- A predicate's contract at the elements of a list: one call each. -/
def PredOn (g : Nat) (lb : Array Value) (n : Nat) (el : Nat → Value) (p : Nat → Bool) (w : World) : Prop :=
  ∀ j, j < n → ∀ W : World, Below w.heap.size w W → Calls Try.prog g (#[el j] ++ lb) W fun e w' => e = .returned (.bool (p j)) ∧ Below W.heap.size W w'

/-- The first place of so many at which p holds, or -1. -/
def firstOf (p : Nat → Bool) : Nat → Nat → Int
  | _, 0 => -1
  | k, d + 1 => if p k then (k : Int) else firstOf p (k + 1) d
/-- Is there one? -/
def anyOf (p : Nat → Bool) : Nat → Nat → Bool
  | _, 0 => false
  | k, d + 1 => p k || anyOf p (k + 1) d
theorem firstOf_any (p : Nat → Bool) : ∀ d k, decide (0 ≤ firstOf p k d) = anyOf p k d
  | 0, _ => rfl
  | d + 1, k => by
    by_cases h : p k = true
    · have e : firstOf p k (d + 1) = k := by simp [firstOf, h]
      rw [e]; simp [anyOf, h]
    · have e : firstOf p k (d + 1) = firstOf p (k + 1) d := by simp [firstOf, h]
      rw [e, firstOf_any p d (k + 1)]; simp [anyOf, h]
theorem firstOf_step {p : Nat → Bool} {k n : Nat} (h : k < n) : firstOf p k (n - k) = if p k then (k : Int) else firstOf p (k + 1) (n - (k + 1)) := by
  obtain ⟨d, hd⟩ : ∃ d, n - k = d + 1 := ⟨n - k - 1, by omega⟩
  rw [show n - (k + 1) = d by omega, hd]; rfl
theorem anyOf_false {p : Nat → Bool} : ∀ {d k : Nat}, anyOf p k d = false ↔ ∀ j, k ≤ j → j < k + d → p j = false
  | 0, k => by simp [anyOf]; intro j h1 h2; omega
  | d + 1, k => by
    simp only [anyOf, Bool.or_eq_false_iff, anyOf_false (d := d)]
    constructor
    · rintro ⟨h0, h⟩ j h1 h2
      by_cases e : j = k
      · subst e; exact h0
      · exact h j (by omega) (by omega)
    · intro h
      exact ⟨h k (by omega) (by omega), fun j h1 h2 => h j (by omega) (by omega)⟩

theorem below_next {w W w' : World} (h : Below w.heap.size w W) (h' : Below W.heap.size W w') : Below w.heap.size w w' :=
  below_then h h.size h'
theorem PredOn.below {g : Nat} {lb : Array Value} {n : Nat} {el : Nat → Value} {p : Nat → Bool} {w W : World} (h : PredOn g lb n el p w) (hb : Below w.heap.size w W) : PredOn g lb n el p W :=
  fun j hj W' hW' => h j hj W' (below_next hb hW')

/-! Readings of elements that are structs: the cells of each, by functions of the place. -/
theorem pick_cells {α : Type} {k : Kd α} {w : World} {A : Option Addr} {n : Nat} {xs : List α} (z : α) (h : k.C w A n xs) :
    ∃ el : Nat → List Value, (∀ j, j < n → k.K w (xs.getD j z) (el j)) ∧ (0 < n → ∃ ad, A = some ad ∧ ∀ j, j < n → ∀ i v, (el j)[i]? = some v → w.cell? (ad.add (j * k.sz + i)) = some v) := by
  have hs : ∀ j, ∃ c : List Value, j < n → (k.K w (xs.getD j z) c ∧ ∀ ad, A = some ad → ∀ i v, c[i]? = some v → w.cell? (ad.add (j * k.sz + i)) = some v) := by
    intro j
    by_cases hj : j < n
    · obtain ⟨ad, c, e, _, hK, hc⟩ := Kd.C_get h z (j : Int) (by omega) (by omega)
      simp only [Int.toNat_natCast] at hK hc
      refine ⟨c, fun _ => ⟨hK, fun ad' e' => ?_⟩⟩
      rw [e] at e'; cases e'
      exact hc
    · exact ⟨[], fun h' => absurd h' hj⟩
  refine ⟨fun j => (hs j).choose, fun j hj => ((hs j).choose_spec hj).1, fun hn => ?_⟩
  obtain ⟨ad, c, e, _, hK, hc⟩ := Kd.C_get h z ((0 : Nat) : Int) (by omega) (by omega)
  exact ⟨ad, e, fun j hj => ((hs j).choose_spec hj).2 ad e⟩
theorem int_cells' {k : IntKind} {w : World} {A : Option Addr} {n : Nat} {xs : List Int} (h : (Kd.int k).C w A n xs) :
    0 < n → ∃ ad, A = some ad ∧ ∀ j, j < n → w.cell? (ad.add j) = some (.int k (xs.getD j 0)) := by
  intro hn
  obtain ⟨ad, e, _⟩ := Kd.at_int h (0 : Nat) (by omega) (by omega)
  refine ⟨ad, e, fun j hj => ?_⟩
  obtain ⟨ad', e', hc⟩ := Kd.at_int h (j : Nat) (by omega) (by omega)
  rw [e] at e'; cases e'
  simpa [rd] using hc
/-- A block of numbers reads as its numbers. -/
theorem blk_C {k : IntKind} {W : World} {g : Nat} {t : TypeId} (xs : List Int) (h : W.heap[g]? = some (.cells (xs.map (Value.int k)).toArray t (0, 0))) (hl : xs.length ≤ 9223372036854775807) : (Kd.int k).C W (some ⟨g, 0, none⟩) xs.length xs :=
  ⟨rfl, hl, fun _ => ⟨_, rfl, fun j p hj => ⟨[.int k p], rfl, rfl, fun i u hu => by
    match i, hu with
    | 0, hu =>
      simp at hu; subst hu
      show W.cell? ((⟨g, 0, none⟩ : Addr).add (j * 1 + 0)) = _
      rw [Nat.mul_one, Nat.add_zero, add_plain, blk_cell h j]
      simp [hj]⟩⟩⟩
end Go.Proofs.Ytcignolfkocjeaa
