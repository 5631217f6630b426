/- A font that comes in as an argument, read. -/
import Derived.Test.YtllllmhekdcbiaaOpen
import Derived.DataShut
import Derived.Test.YtllllmhekdcbiaaTfmAwake
set_option linter.unusedVariables false
set_option linter.unusedSimpArgs false
namespace Go.Proofs.Ytllllmhekdcbiaa
open Go.RowKit Go.ChangeShapes Go.Proofs.YtllllmhekdcbiaaW.PrintWords

theorem field_of {H : Type} {enc : TypeId × Value → H} {P : Program} {w : World} {fs : Array Field} {xs : List (DataW H × List MemPlace)} {n : Nat} {cs : List Value} (hlen : xs.length = fs.size)
    (hf : ∀ (i : Nat) (f : Field), fs[i]? = some f → DataW.trod enc P w 0 (fun _ => true) true n f.type ((cs.drop f.offset).take (P.cellsOf f.type)) = xs[i]?) (i : Nat) (f : Field) (hi : fs[i]? = some f) (k : Nat) (hk : P.cellsOf f.type = k) :
    ∃ y, DataW.trod enc P w 0 (fun _ => true) true n f.type ((cs.drop f.offset).take k) = some y := by
  subst hk
  have h1 : i < fs.size := (Array.getElem?_eq_some_iff.1 hi).1
  exact ⟨xs[i]'(by omega), by rw [hf i f hi]; exact List.getElem?_eq_getElem (by omega)⟩
theorem cells_int : Try.prog.cellsOf 3 = 1 := by kernel_rfl
theorem cells_ints : Try.prog.cellsOf 23 = 1 := by kernel_rfl
theorem cells_chars : Try.prog.cellsOf 22 = 1 := by kernel_rfl
theorem cells_steps : Try.prog.cellsOf 24 = 1 := by kernel_rfl

theorem opens_char : Opens Try.prog 40 kChar (fun _ => True) := fun H enc w fuel cs x h => by
  obtain ⟨xs, n, _, _, hl, hlen, hf⟩ := DataW.trod_struct Try.underlying40 h
  have hl' : cs.length = 6 := hl.trans (by kernel_rfl)
  obtain ⟨a0, a1, a2, a3, a4, a5, rfl⟩ : ∃ a0 a1 a2 a3 a4 a5, cs = [a0, a1, a2, a3, a4, a5] := by
    match cs, hl' with
    | [a0, a1, a2, a3, a4, a5], _ => exact ⟨_, _, _, _, _, _, rfl⟩
  obtain ⟨y0, h0⟩ : ∃ y, DataW.trod enc Try.prog w 0 (fun _ => true) true n 3 [a0] = some y := field_of hlen hf 0 _ rfl 1 cells_int
  obtain ⟨n0, e0, _, w0⟩ := DataW.trod_int Try.underlying3 h0
  injection e0 with e0 _
  subst e0
  obtain ⟨y1, h1⟩ : ∃ y, DataW.trod enc Try.prog w 0 (fun _ => true) true n 3 [a1] = some y := field_of hlen hf 1 _ rfl 1 cells_int
  obtain ⟨n1, e1, _, w1⟩ := DataW.trod_int Try.underlying3 h1
  injection e1 with e1 _
  subst e1
  obtain ⟨y2, h2⟩ : ∃ y, DataW.trod enc Try.prog w 0 (fun _ => true) true n 3 [a2] = some y := field_of hlen hf 2 _ rfl 1 cells_int
  obtain ⟨n2, e2, _, w2⟩ := DataW.trod_int Try.underlying3 h2
  injection e2 with e2 _
  subst e2
  obtain ⟨y3, h3⟩ : ∃ y, DataW.trod enc Try.prog w 0 (fun _ => true) true n 3 [a3] = some y := field_of hlen hf 3 _ rfl 1 cells_int
  obtain ⟨n3, e3, _, w3⟩ := DataW.trod_int Try.underlying3 h3
  injection e3 with e3 _
  subst e3
  obtain ⟨y4, h4⟩ : ∃ y, DataW.trod enc Try.prog w 0 (fun _ => true) true n 3 [a4] = some y := field_of hlen hf 4 _ rfl 1 cells_int
  obtain ⟨n4, e4, _, w4⟩ := DataW.trod_int Try.underlying3 h4
  injection e4 with e4 _
  subst e4
  obtain ⟨y5, h5⟩ : ∃ y, DataW.trod enc Try.prog w 0 (fun _ => true) true n 3 [a5] = some y := field_of hlen hf 5 _ rfl 1 cells_int
  obtain ⟨n5, e5, _, w5⟩ := DataW.trod_int Try.underlying3 h5
  injection e5 with e5 _
  subst e5
  exact ⟨⟨n0, n1, n2, n3, n4, n5⟩, Kd.K_of_M _ (kChar_M w 0 (fun _ => True) _), trivial⟩
theorem opens_step : Opens Try.prog 50 kStep (fun _ => True) := fun H enc w fuel cs x h => by
  obtain ⟨xs, n, _, _, hl, hlen, hf⟩ := DataW.trod_struct Try.underlying50 h
  have hl' : cs.length = 4 := hl.trans (by kernel_rfl)
  obtain ⟨a0, a1, a2, a3, rfl⟩ : ∃ a0 a1 a2 a3, cs = [a0, a1, a2, a3] := by
    match cs, hl' with
    | [a0, a1, a2, a3], _ => exact ⟨_, _, _, _, rfl⟩
  obtain ⟨y0, h0⟩ : ∃ y, DataW.trod enc Try.prog w 0 (fun _ => true) true n 3 [a0] = some y := field_of hlen hf 0 _ rfl 1 cells_int
  obtain ⟨n0, e0, _, w0⟩ := DataW.trod_int Try.underlying3 h0
  injection e0 with e0 _
  subst e0
  obtain ⟨y1, h1⟩ : ∃ y, DataW.trod enc Try.prog w 0 (fun _ => true) true n 3 [a1] = some y := field_of hlen hf 1 _ rfl 1 cells_int
  obtain ⟨n1, e1, _, w1⟩ := DataW.trod_int Try.underlying3 h1
  injection e1 with e1 _
  subst e1
  obtain ⟨y2, h2⟩ : ∃ y, DataW.trod enc Try.prog w 0 (fun _ => true) true n 3 [a2] = some y := field_of hlen hf 2 _ rfl 1 cells_int
  obtain ⟨n2, e2, _, w2⟩ := DataW.trod_int Try.underlying3 h2
  injection e2 with e2 _
  subst e2
  obtain ⟨y3, h3⟩ : ∃ y, DataW.trod enc Try.prog w 0 (fun _ => true) true n 3 [a3] = some y := field_of hlen hf 3 _ rfl 1 cells_int
  obtain ⟨n3, e3, _, w3⟩ := DataW.trod_int Try.underlying3 h3
  injection e3 with e3 _
  subst e3
  exact ⟨⟨n0, n1, n2, n3⟩, Kd.K_of_M _ (kStep_M w 0 (fun _ => True) _), trivial⟩
theorem open_font {H : Type} {enc : TypeId × Value → H} {w : World} {fuel : Nat} {cs : List Value} {x : DataW H × List MemPlace} (h : DataW.trod enc Try.prog w 0 (fun _ => true) true fuel 26 cs = some x) : ∃ F, FontOf w (.agg cs.toArray) F := by
  obtain ⟨xs, n, _, _, hl, hlen, hf⟩ := DataW.trod_struct Try.underlying26 h
  have hl' : cs.length = 11 := hl.trans (by kernel_rfl)
  obtain ⟨a0, a1, a2, a3, a4, a5, a6, a7, a8, a9, a10, rfl⟩ : ∃ a0 a1 a2 a3 a4 a5 a6 a7 a8 a9 a10, cs = [a0, a1, a2, a3, a4, a5, a6, a7, a8, a9, a10] := by
    match cs, hl' with
    | [a0, a1, a2, a3, a4, a5, a6, a7, a8, a9, a10], _ => exact ⟨_, _, _, _, _, _, _, _, _, _, _, rfl⟩
  obtain ⟨y0, h0⟩ : ∃ y, DataW.trod enc Try.prog w 0 (fun _ => true) true n 3 [a0] = some y := field_of hlen hf 0 _ rfl 1 cells_int
  obtain ⟨n0, e0, _, w0⟩ := DataW.trod_int Try.underlying3 h0
  injection e0 with e0 _
  subst e0
  obtain ⟨y1, h1⟩ : ∃ y, DataW.trod enc Try.prog w 0 (fun _ => true) true n 3 [a1] = some y := field_of hlen hf 1 _ rfl 1 cells_int
  obtain ⟨n1, e1, _, w1⟩ := DataW.trod_int Try.underlying3 h1
  injection e1 with e1 _
  subst e1
  obtain ⟨y2, h2⟩ : ∃ y, DataW.trod enc Try.prog w 0 (fun _ => true) true n 3 [a2] = some y := field_of hlen hf 2 _ rfl 1 cells_int
  obtain ⟨n2, e2, _, w2⟩ := DataW.trod_int Try.underlying3 h2
  injection e2 with e2 _
  subst e2
  obtain ⟨y3, h3⟩ : ∃ y, DataW.trod enc Try.prog w 0 (fun _ => true) true n 22 [a3] = some y := field_of hlen hf 3 _ rfl 1 cells_chars
  obtain ⟨l3, hk3, w3⟩ := opens_slice zCh Try.underlying22 (by kernel_rfl) opens_char _ _ _ _ _ _ h3
  obtain ⟨A3, c3, e3, hc3, hC3⟩ := open_kslice hk3
  injection e3 with e3 _
  subst e3
  obtain ⟨y4, h4⟩ : ∃ y, DataW.trod enc Try.prog w 0 (fun _ => true) true n 23 [a4] = some y := field_of hlen hf 4 _ rfl 1 cells_ints
  obtain ⟨l4, hk4, w4⟩ := opens_slice 0 Try.underlying23 (by kernel_rfl) (opens_int Try.underlying3) _ _ _ _ _ _ h4
  obtain ⟨A4, c4, e4, hc4, hC4⟩ := open_kslice hk4
  injection e4 with e4 _
  subst e4
  obtain ⟨y5, h5⟩ : ∃ y, DataW.trod enc Try.prog w 0 (fun _ => true) true n 23 [a5] = some y := field_of hlen hf 5 _ rfl 1 cells_ints
  obtain ⟨l5, hk5, w5⟩ := opens_slice 0 Try.underlying23 (by kernel_rfl) (opens_int Try.underlying3) _ _ _ _ _ _ h5
  obtain ⟨A5, c5, e5, hc5, hC5⟩ := open_kslice hk5
  injection e5 with e5 _
  subst e5
  obtain ⟨y6, h6⟩ : ∃ y, DataW.trod enc Try.prog w 0 (fun _ => true) true n 23 [a6] = some y := field_of hlen hf 6 _ rfl 1 cells_ints
  obtain ⟨l6, hk6, w6⟩ := opens_slice 0 Try.underlying23 (by kernel_rfl) (opens_int Try.underlying3) _ _ _ _ _ _ h6
  obtain ⟨A6, c6, e6, hc6, hC6⟩ := open_kslice hk6
  injection e6 with e6 _
  subst e6
  obtain ⟨y7, h7⟩ : ∃ y, DataW.trod enc Try.prog w 0 (fun _ => true) true n 23 [a7] = some y := field_of hlen hf 7 _ rfl 1 cells_ints
  obtain ⟨l7, hk7, w7⟩ := opens_slice 0 Try.underlying23 (by kernel_rfl) (opens_int Try.underlying3) _ _ _ _ _ _ h7
  obtain ⟨A7, c7, e7, hc7, hC7⟩ := open_kslice hk7
  injection e7 with e7 _
  subst e7
  obtain ⟨y8, h8⟩ : ∃ y, DataW.trod enc Try.prog w 0 (fun _ => true) true n 24 [a8] = some y := field_of hlen hf 8 _ rfl 1 cells_steps
  obtain ⟨l8, hk8, w8⟩ := opens_slice zSt Try.underlying24 (by kernel_rfl) opens_step _ _ _ _ _ _ h8
  obtain ⟨A8, c8, e8, hc8, hC8⟩ := open_kslice hk8
  injection e8 with e8 _
  subst e8
  obtain ⟨y9, h9⟩ : ∃ y, DataW.trod enc Try.prog w 0 (fun _ => true) true n 23 [a9] = some y := field_of hlen hf 9 _ rfl 1 cells_ints
  obtain ⟨l9, hk9, w9⟩ := opens_slice 0 Try.underlying23 (by kernel_rfl) (opens_int Try.underlying3) _ _ _ _ _ _ h9
  obtain ⟨A9, c9, e9, hc9, hC9⟩ := open_kslice hk9
  injection e9 with e9 _
  subst e9
  obtain ⟨y10, h10⟩ : ∃ y, DataW.trod enc Try.prog w 0 (fun _ => true) true n 23 [a10] = some y := field_of hlen hf 10 _ rfl 1 cells_ints
  obtain ⟨l10, hk10, w10⟩ := opens_slice 0 Try.underlying23 (by kernel_rfl) (opens_int Try.underlying3) _ _ _ _ _ _ h10
  obtain ⟨A10, c10, e10, hc10, hC10⟩ := open_kslice hk10
  injection e10 with e10 _
  subst e10
  exact ⟨⟨n0, n1, n2, l3, l4, l5, l6, l7, l8, l9, l10⟩, A3, A4, A5, A6, A7, A8, A9, A10, c3, c4, c5, c6, c7, c8, c9, c10, rfl, hC3, hC4, hC5, hC6, hC7, hC8, hC9, hC10⟩
theorem bytes_wf {l : List Int} (h : ∀ x, x ∈ l → (Lit.int .u8 x).wf = true) : Bytes l := bytes_all fun x hx => by
  have := (Lit.wf_int_iff _ _).1 (h x hx)
  have e1 : IntKind.u8.min = 0 := by decide
  have e2 : IntKind.u8.max = 255 := by decide
  omega
end Go.Proofs.Ytllllmhekdcbiaa
