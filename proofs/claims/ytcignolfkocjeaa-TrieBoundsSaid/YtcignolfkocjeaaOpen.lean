/- Arguments as they are read: whole numbers, slices of any kind. -/
import Derived.Test.YtcignolfkocjeaaBase
import Derived.ChangeArms
import Derived.ChangeShapes
import Derived.ChangeSame
import Derived.Deep.Slices
set_option linter.unusedVariables false
set_option linter.unusedSimpArgs false
namespace Go.Proofs.Ytcignolfkocjeaa
open Go.Deep Go.RowKit Go.ChangeShapes Go.Proofs.YtcignolfkocjeaaW.PrintWords

/-- What reads as this type is of this kind. -/
def Opens {α : Type} (P : Program) (t : TypeId) (d : Kd α) (ok : α → Prop) : Prop :=
  ∀ (H : Type) (enc : TypeId × Value → H) (w : World) (fuel : Nat) (cs : List Value) (x : DataW H × List MemPlace), DataW.trod enc P w 0 (fun _ => true) true fuel t cs = some x → ∃ v, d.K w v cs ∧ ok v
theorem opens_int {P : Program} {t : TypeId} {k : IntKind} (ht : P.underlying t = some (.int k)) : Opens P t (Kd.int k) (fun n => (Lit.int k n).wf = true) := fun H enc w fuel cs x h => by
  obtain ⟨n, rfl, _, hw⟩ := DataW.trod_int ht h
  exact ⟨n, rfl, hw⟩
theorem opens_slice {α : Type} {P : Program} {t e : TypeId} {d : Kd α} {ok : α → Prop} (z : α) (ht : P.underlying t = some (.slice e)) (hc : P.cellsOf e = d.sz) (hd : Opens P e d ok) : Opens P t (Kd.slice e d) (fun xs => ∀ x, x ∈ xs → ok x) := fun H enc w fuel cs x h => by
  rcases open_slice ht h with ⟨rfl, _⟩ | ⟨a, len, cap, m, n, D, Pl, rfl, hb, hl, hm, hmm, rfl, hx⟩
  · exact ⟨[], ⟨none, 0, rfl, Nat.le_refl _, Kd.C_nil _ _⟩, fun x hx => by cases hx⟩
  have hmc : m = cap := by simpa using hmm
  subst hmc
  have hs : ∀ i, ∃ p : α, i < len → ∃ c, w.cells? 0 (a.add (i * P.cellsOf e)) (P.cellsOf e) = some c ∧ d.K w p c ∧ ok p := fun i => by
    by_cases hi : i < len
    · obtain ⟨c, h1, h2⟩ := hx i (by omega)
      obtain ⟨p, h3, h4⟩ := hd _ _ _ _ _ _ h2
      exact ⟨p, fun _ => ⟨c, h1, h3, h4⟩⟩
    · exact ⟨z, fun h => absurd h hi⟩
  let f : Nat → α := fun i => (hs i).choose
  have hf : ∀ i, i < len → ∃ c, w.cells? 0 (a.add (i * P.cellsOf e)) (P.cellsOf e) = some c ∧ d.K w (f i) c ∧ ok (f i) := fun i => (hs i).choose_spec
  have hlen : ((List.range len).map f).length = len := by simp
  refine ⟨(List.range len).map f, ⟨some a, m, by rw [hlen], by omega, hlen.symm ▸ ⟨hlen, ?_, fun hp => ⟨a, rfl, fun j p hj => ?_⟩⟩⟩, fun x hx => ?_⟩
  · have : maxLen = 9223372036854775807 := by decide
    omega
  · have hjl : j < len := by
      have := (List.getElem?_eq_some_iff.1 hj).1
      simpa using this
    have hp : f j = p := by simpa [hjl] using hj
    subst hp
    obtain ⟨c, h1, h2, _⟩ := hf j hjl
    obtain ⟨_, h4, h5⟩ := World.cells?_some h1
    refine ⟨c, by rw [h4, hc], h2, fun i u hu => ?_⟩
    have hi : i < P.cellsOf e := by
      have := (List.getElem?_eq_some_iff.1 hu).1
      omega
    have := h5 i hi
    rw [Deep.add_add, hc] at this
    rw [this, hu]
  · obtain ⟨j, hj, rfl⟩ := List.mem_map.1 hx
    obtain ⟨c, _, _, h3⟩ := hf j (by simpa using hj)
    exact h3
/-- A slice opened: its value. -/
theorem open_kslice {α : Type} {d : Kd α} {e : Nat} {w : World} {xs : List α} {cs : List Value} (h : (Kd.slice e d).K w xs cs) : ∃ A c, cs = [.slice A xs.length c] ∧ xs.length ≤ c ∧ d.C w A xs.length xs := h
end Go.Proofs.Ytcignolfkocjeaa
