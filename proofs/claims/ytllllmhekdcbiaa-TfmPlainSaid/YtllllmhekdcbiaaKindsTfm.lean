/- The kinds of a font's characters and steps: what their cells say. -/
import Derived.Test.YtllllmhekdcbiaaBase
namespace Go.Proofs.Ytllllmhekdcbiaa
open Go.RowKit Go.Proofs.YtllllmhekdcbiaaW.PrintWords

structure ChR where
  w : Int
  h : Int
  d : Int
  i : Int
  t : Int
  r : Int
structure StR where
  s : Int
  n : Int
  o : Int
  r : Int
def kChar : Kd ChR := Kd.iso (Kd.pair (Kd.int .i64) (Kd.pair (Kd.int .i64) (Kd.pair (Kd.int .i64) (Kd.pair (Kd.int .i64) (Kd.pair (Kd.int .i64) (Kd.int .i64)))))) (fun x : ChR => (x.w, x.h, x.d, x.i, x.t, x.r))
def kStep : Kd StR := Kd.iso (Kd.pair (Kd.int .i64) (Kd.pair (Kd.int .i64) (Kd.pair (Kd.int .i64) (Kd.int .i64)))) (fun x : StR => (x.s, x.n, x.o, x.r))
theorem kChar_open {w : World} {x : ChR} {cs : List Value} (h : kChar.K w x cs) : cs = [.int .i64 x.w, .int .i64 x.h, .int .i64 x.d, .int .i64 x.i, .int .i64 x.t, .int .i64 x.r] := by
  obtain ⟨_, _, rfl, rfl, ⟨_, _, rfl, rfl, ⟨_, _, rfl, rfl, ⟨_, _, rfl, rfl, ⟨_, _, rfl, rfl, rfl⟩⟩⟩⟩⟩ := h
  exact rfl
theorem kStep_open {w : World} {x : StR} {cs : List Value} (h : kStep.K w x cs) : cs = [.int .i64 x.s, .int .i64 x.n, .int .i64 x.o, .int .i64 x.r] := by
  obtain ⟨_, _, rfl, rfl, ⟨_, _, rfl, rfl, ⟨_, _, rfl, rfl, rfl⟩⟩⟩ := h
  exact rfl
def zCh : ChR := ⟨0, 0, 0, 0, 0, 0⟩
def zSt : StR := ⟨0, 0, 0, 0⟩
theorem char_cells {w : World} {A : Option Addr} {n : Nat} {xs : List ChR} (h : kChar.C w A n xs) :
    0 < n → ∃ ad, A = some ad ∧ ∀ j, j < n → w.cell? (ad.add (j * 6 + 0)) = some (.int .i64 (xs.getD j zCh).w) ∧ w.cell? (ad.add (j * 6 + 1)) = some (.int .i64 (xs.getD j zCh).h) ∧ w.cell? (ad.add (j * 6 + 2)) = some (.int .i64 (xs.getD j zCh).d) ∧ w.cell? (ad.add (j * 6 + 3)) = some (.int .i64 (xs.getD j zCh).i) ∧ w.cell? (ad.add (j * 6 + 4)) = some (.int .i64 (xs.getD j zCh).t) ∧ w.cell? (ad.add (j * 6 + 5)) = some (.int .i64 (xs.getD j zCh).r) := by
  intro hn
  obtain ⟨el, hK, hc⟩ := pick_cells zCh h
  obtain ⟨ad, e, hc⟩ := hc hn
  refine ⟨ad, e, fun j hj => ?_⟩
  have h1 := kChar_open (hK j hj)
  have h2 := hc j hj
  rw [h1] at h2
  exact ⟨h2 0 _ rfl, h2 1 _ rfl, h2 2 _ rfl, h2 3 _ rfl, h2 4 _ rfl, h2 5 _ rfl⟩
theorem step_cells {w : World} {A : Option Addr} {n : Nat} {xs : List StR} (h : kStep.C w A n xs) :
    0 < n → ∃ ad, A = some ad ∧ ∀ j, j < n → w.cell? (ad.add (j * 4 + 0)) = some (.int .i64 (xs.getD j zSt).s) ∧ w.cell? (ad.add (j * 4 + 1)) = some (.int .i64 (xs.getD j zSt).n) ∧ w.cell? (ad.add (j * 4 + 2)) = some (.int .i64 (xs.getD j zSt).o) ∧ w.cell? (ad.add (j * 4 + 3)) = some (.int .i64 (xs.getD j zSt).r) := by
  intro hn
  obtain ⟨el, hK, hc⟩ := pick_cells zSt h
  obtain ⟨ad, e, hc⟩ := hc hn
  refine ⟨ad, e, fun j hj => ?_⟩
  have h1 := kStep_open (hK j hj)
  have h2 := hc j hj
  rw [h1] at h2
  exact ⟨h2 0 _ rfl, h2 1 _ rfl, h2 2 _ rfl, h2 3 _ rfl⟩
theorem int_cells {k : IntKind} {w : World} {A : Option Addr} {n : Nat} {xs : List Int} (h : (Kd.int k).C w A n xs) :
    0 < n → ∃ ad, A = some ad ∧ ∀ j, j < n → w.cell? (ad.add j) = some (.int k (xs.getD j 0)) := int_cells' h
end Go.Proofs.Ytllllmhekdcbiaa
