/- Patterns that come in as an argument, read. -/
import Derived.Test.YtcignolfkocjeaaOpen
import Derived.DataShut
import Derived.Test.YtcignolfkocjeaaLiang3
set_option linter.unusedVariables false
set_option linter.unusedSimpArgs false
namespace Go.Proofs.Ytcignolfkocjeaa
open Go.RowKit Go.ChangeShapes Go.Proofs.YtcignolfkocjeaaW.PrintWords

theorem field_of {H : Type} {enc : TypeId × Value → H} {P : Program} {w : World} {fs : Array Field} {xs : List (DataW H × List MemPlace)} {n : Nat} {cs : List Value} (hlen : xs.length = fs.size)
    (hf : ∀ (i : Nat) (f : Field), fs[i]? = some f → DataW.trod enc P w 0 (fun _ => true) true n f.type ((cs.drop f.offset).take (P.cellsOf f.type)) = xs[i]?) (i : Nat) (f : Field) (hi : fs[i]? = some f) (k : Nat) (hk : P.cellsOf f.type = k) :
    ∃ y, DataW.trod enc P w 0 (fun _ => true) true n f.type ((cs.drop f.offset).take k) = some y := by
  subst hk
  have h1 : i < fs.size := (Array.getElem?_eq_some_iff.1 hi).1
  exact ⟨xs[i]'(by omega), by rw [hf i f hi]; exact List.getElem?_eq_getElem (by omega)⟩
theorem two_of {cs : List Value} (h : cs.length = 2) : ∃ a0 a1, cs = [a0, a1] := by
  rcases cs with _ | ⟨a0, _ | ⟨a1, _ | ⟨a2, r⟩⟩⟩
  · cases h
  · cases h
  · exact ⟨a0, a1, rfl⟩
  · simp at h
theorem cells_ints : Try.prog.cellsOf 32 = 1 := by kernel_rfl
theorem cells_string : Try.prog.cellsOf 9 = 1 := by kernel_rfl
theorem cells_pats : Try.prog.cellsOf 22 = 1 := by kernel_rfl
theorem cells_excs : Try.prog.cellsOf 23 = 1 := by kernel_rfl
theorem opens_ints : Opens Try.prog 32 (Kd.slice 3 (Kd.int .i64)) (fun _ => True) := fun H enc w fuel cs x h => by
  obtain ⟨l, h1, _⟩ := opens_slice 0 Try.underlying32 (by kernel_rfl) (opens_int Try.underlying3) _ _ _ _ _ _ h
  exact ⟨l, h1, trivial⟩

theorem opens_pat : Opens Try.prog 40 kPat (fun _ => True) := fun H enc w fuel cs x h => by
  obtain ⟨xs, n, _, _, hl, hlen, hf⟩ := DataW.trod_struct Try.underlying40 h
  have hl' : cs.length = 2 := hl.trans (by kernel_rfl)
  obtain ⟨a0, a1, rfl⟩ := two_of hl'
  obtain ⟨y0, h0⟩ : ∃ y, DataW.trod enc Try.prog w 0 (fun _ => true) true n 9 [a0] = some y := field_of hlen hf 0 _ rfl 1 cells_string
  obtain ⟨y1, h1⟩ : ∃ y, DataW.trod enc Try.prog w 0 (fun _ => true) true n 32 [a1] = some y := field_of hlen hf 1 _ rfl 1 cells_ints
  obtain ⟨s, e0, _⟩ := DataW.trod_string Try.underlying9 h0
  injection e0 with e0 _
  subst e0
  obtain ⟨l, hk, _⟩ := opens_ints _ _ _ _ _ _ h1
  obtain ⟨A, c, e, hc, hC⟩ := open_kslice hk
  injection e with e _
  subst e
  exact ⟨⟨s, l⟩, Pr.k40_mk w ⟨s, l⟩ hc hC, trivial⟩
theorem opens_exc : Opens Try.prog 59 kExc (fun _ => True) := fun H enc w fuel cs x h => by
  obtain ⟨xs, n, _, _, hl, hlen, hf⟩ := DataW.trod_struct Try.underlying59 h
  have hl' : cs.length = 2 := hl.trans (by kernel_rfl)
  obtain ⟨a0, a1, rfl⟩ := two_of hl'
  obtain ⟨y0, h0⟩ : ∃ y, DataW.trod enc Try.prog w 0 (fun _ => true) true n 9 [a0] = some y := field_of hlen hf 0 _ rfl 1 cells_string
  obtain ⟨y1, h1⟩ : ∃ y, DataW.trod enc Try.prog w 0 (fun _ => true) true n 32 [a1] = some y := field_of hlen hf 1 _ rfl 1 cells_ints
  obtain ⟨s, e0, _⟩ := DataW.trod_string Try.underlying9 h0
  injection e0 with e0 _
  subst e0
  obtain ⟨l, hk, _⟩ := opens_ints _ _ _ _ _ _ h1
  obtain ⟨A, c, e, hc, hC⟩ := open_kslice hk
  injection e with e _
  subst e
  exact ⟨⟨s, l⟩, Pr.k59_mk w ⟨s, l⟩ hc hC, trivial⟩
theorem open_pats {H : Type} {enc : TypeId × Value → H} {w : World} {fuel : Nat} {cs : List Value} {x : DataW H × List MemPlace} (h : DataW.trod enc Try.prog w 0 (fun _ => true) true fuel 25 cs = some x) : ∃ l m, PatsOf w (.agg cs.toArray) l m := by
  obtain ⟨xs, n, _, _, hl, hlen, hf⟩ := DataW.trod_struct Try.underlying25 h
  have hl' : cs.length = 2 := hl.trans (by kernel_rfl)
  obtain ⟨a0, a1, rfl⟩ := two_of hl'
  obtain ⟨y0, h0⟩ : ∃ y, DataW.trod enc Try.prog w 0 (fun _ => true) true n 22 [a0] = some y := field_of hlen hf 0 _ rfl 1 cells_pats
  obtain ⟨y1, h1⟩ : ∃ y, DataW.trod enc Try.prog w 0 (fun _ => true) true n 23 [a1] = some y := field_of hlen hf 1 _ rfl 1 cells_excs
  obtain ⟨l, hk0, _⟩ := opens_slice zPat Try.underlying22 (by kernel_rfl) opens_pat _ _ _ _ _ _ h0
  obtain ⟨m, hk1, _⟩ := opens_slice zExc Try.underlying23 (by kernel_rfl) opens_exc _ _ _ _ _ _ h1
  obtain ⟨A, c, e, hc, hC⟩ := open_kslice hk0
  injection e with e _
  subst e
  obtain ⟨B, d, e, hd, hD⟩ := open_kslice hk1
  injection e with e _
  subst e
  exact ⟨l, m, A, c, B, d, rfl, hc, hd, hC, hD⟩
end Go.Proofs.Ytcignolfkocjeaa
