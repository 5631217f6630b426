/- tfm's functions over one notion: a value that is a font. -/
import Derived.Test.YtllllmhekdcbiaaTfmRead
import Derived.Test.YtllllmhekdcbiaaTfmHas
import Derived.Test.YtllllmhekdcbiaaTfmWrite
import Derived.Test.YtllllmhekdcbiaaTfmSameF
set_option linter.unusedVariables false
set_option linter.unusedSimpArgs false
namespace Go.Proofs.Ytllllmhekdcbiaa
open Go.RowKit Go.Proofs.YtllllmhekdcbiaaW.PrintWords

/-- A value is a font. -/
def FontOf (w : World) (v : Value) (F : FontR) : Prop :=
  ∃ A3 A4 A5 A6 A7 A8 A9 A10 c3 c4 c5 c6 c7 c8 c9 c10, v = .agg #[.int .i64 F.s, .int .i64 F.d, .int .i64 F.f, .slice A3 F.l3.length c3, .slice A4 F.l4.length c4, .slice A5 F.l5.length c5, .slice A6 F.l6.length c6, .slice A7 F.l7.length c7, .slice A8 F.l8.length c8, .slice A9 F.l9.length c9, .slice A10 F.l10.length c10] ∧ kChar.C w A3 F.l3.length F.l3 ∧ (Kd.int .i64).C w A4 F.l4.length F.l4 ∧ (Kd.int .i64).C w A5 F.l5.length F.l5 ∧ (Kd.int .i64).C w A6 F.l6.length F.l6 ∧ (Kd.int .i64).C w A7 F.l7.length F.l7 ∧ kStep.C w A8 F.l8.length F.l8 ∧ (Kd.int .i64).C w A9 F.l9.length F.l9 ∧ (Kd.int .i64).C w A10 F.l10.length F.l10
theorem FontOf.below {w w' : World} {v : Value} {F : FontR} (h : FontOf w v F) (hB : Below w.heap.size w w') : FontOf w' v F := by
  obtain ⟨A3, A4, A5, A6, A7, A8, A9, A10, c3, c4, c5, c6, c7, c8, c9, c10, hv, h3, h4, h5, h6, h7, h8, h9, h10⟩ := h
  exact ⟨A3, A4, A5, A6, A7, A8, A9, A10, c3, c4, c5, c6, c7, c8, c9, c10, hv, Kd.C_below h3 hB, Kd.C_below h4 hB, Kd.C_below h5 hB, Kd.C_below h6 hB, Kd.C_below h7 hB, Kd.C_below h8 hB, Kd.C_below h9 hB, Kd.C_below h10 hB⟩
def checkF (F : FontR) : Bool := checkB F.s F.d F.f F.l3 F.l4 F.l5 F.l6 F.l7 F.l8 F.l9 F.l10
def bytesF (F : FontR) : List Int := fontBytes F.s F.d F.f F.l3 F.l4 F.l5 F.l6 F.l7 F.l8 F.l9 F.l10
def fewF (F : FontR) : Bool := fewB F.l3 F.l4 F.l5 F.l6 F.l7 F.l8 F.l9 F.l10
def sameF (F G : FontR) : Bool := decide (F.s = G.s) && decide (F.d = G.d) && decide (F.f = G.f) && decide (F.l3 = G.l3) && decide (F.l8 = G.l8) && decide (F.l4 = G.l4) && decide (F.l5 = G.l5) && decide (F.l6 = G.l6) && decide (F.l7 = G.l7) && decide (F.l9 = G.l9) && decide (F.l10 = G.l10)
def zeroF : FontR := ⟨0, 0, 0, [], [], [], [], [], [], [], []⟩
theorem sameF_iff (F G : FontR) : sameF F G = true ↔ F = G := by
  obtain ⟨a0, a1, a2, a3, a4, a5, a6, a7, a8, a9, a10⟩ := F
  obtain ⟨b0, b1, b2, b3, b4, b5, b6, b7, b8, b9, b10⟩ := G
  simp only [sameF, Bool.and_eq_true, decide_eq_true_eq, FontR.mk.injEq]
  constructor
  · rintro ⟨⟨⟨⟨⟨⟨⟨⟨⟨⟨h1, h2⟩, h3⟩, h4⟩, h5⟩, h6⟩, h7⟩, h8⟩, h9⟩, h10⟩, h11⟩
    exact ⟨h1, h2, h3, h4, h6, h7, h8, h9, h5, h10, h11⟩
  · rintro ⟨h1, h2, h3, h4, h6, h7, h8, h9, h5, h10, h11⟩
    exact ⟨⟨⟨⟨⟨⟨⟨⟨⟨⟨h1, h2⟩, h3⟩, h4⟩, h5⟩, h6⟩, h7⟩, h8⟩, h9⟩, h10⟩, h11⟩
theorem zeroF_of (w : World) : FontOf w zeroFont zeroF := ⟨none, none, none, none, none, none, none, none, 0, 0, 0, 0, 0, 0, 0, 0, rfl, Kd.C_nil _ _, Kd.C_nil _ _, Kd.C_nil _ _, Kd.C_nil _ _, Kd.C_nil _ _, Kd.C_nil _ _, Kd.C_nil _ _, Kd.C_nil _ _⟩

theorem check_of {w : World} {v : Value} {F : FontR} (h : FontOf w v F) : Calls Try.prog 12 #[v] w fun e w' => e = .returned (.bool (checkF F)) ∧ Below w.heap.size w w' := by
  obtain ⟨A3, A4, A5, A6, A7, A8, A9, A10, c3, c4, c5, c6, c7, c8, c9, c10, hv, h3, h4, h5, h6, h7, h8, h9, h10⟩ := h
  subst hv
  exact check_any F.s F.d F.f A3 A4 A5 A6 A7 A8 A9 A10 c3 c4 c5 c6 c7 c8 c9 c10 F.l3 F.l4 F.l5 F.l6 F.l7 F.l8 F.l9 F.l10 w h3 h4 h5 h6 h7 h8 h9 h10
theorem has_of {w : World} {v : Value} {F : FontR} (code : Int) (h : FontOf w v F) : Calls Try.prog 13 #[v, .int .i64 code] w fun e w' => e = .returned (.bool (hasB F.s F.d F.f F.l3 F.l4 F.l5 F.l6 F.l7 F.l8 F.l9 F.l10 code)) ∧ Below w.heap.size w w' := by
  obtain ⟨A3, A4, A5, A6, A7, A8, A9, A10, c3, c4, c5, c6, c7, c8, c9, c10, hv, h3, h4, h5, h6, h7, h8, h9, h10⟩ := h
  subst hv
  exact has_any F.s F.d F.f A3 A4 A5 A6 A7 A8 A9 A10 c3 c4 c5 c6 c7 c8 c9 c10 F.l3 F.l4 F.l5 F.l6 F.l7 F.l8 F.l9 F.l10 code w h3 h4 h5 h6 h7 h8 h9 h10
theorem few_of {w : World} {v : Value} {F : FontR} (h : FontOf w v F) : Calls Try.prog 8 #[v] w fun e w' => e = .returned (.bool (fewF F)) ∧ Below w.heap.size w w' := by
  obtain ⟨A3, A4, A5, A6, A7, A8, A9, A10, c3, c4, c5, c6, c7, c8, c9, c10, hv, h3, h4, h5, h6, h7, h8, h9, h10⟩ := h
  subst hv
  exact few_any F.s F.d F.f A3 A4 A5 A6 A7 A8 A9 A10 c3 c4 c5 c6 c7 c8 c9 c10 F.l3 F.l4 F.l5 F.l6 F.l7 F.l8 F.l9 F.l10 w ⟨h3.2.1, h4.2.1, h5.2.1, h6.2.1, h7.2.1, h8.2.1, h9.2.1, h10.2.1⟩
theorem write_of {w : World} {v : Value} {F : FontR} (h : FontOf w v F) : Calls Try.prog 9 #[v] w fun e w' => ∃ u, e = .returned (.tuple #[u, .int .i64 (if checkF F then 0 else 70)]) ∧ (Kd.int .u8).R 5 w' w.heap.size (fun _ => True) u (if checkF F then bytesF F else []) ∧ Below w.heap.size w w' := by
  obtain ⟨A3, A4, A5, A6, A7, A8, A9, A10, c3, c4, c5, c6, c7, c8, c9, c10, hv, h3, h4, h5, h6, h7, h8, h9, h10⟩ := h
  subst hv
  by_cases hk : checkF F = true
  · rw [if_pos hk, if_pos hk]
    exact write_yes F.s F.d F.f A3 A4 A5 A6 A7 A8 A9 A10 c3 c4 c5 c6 c7 c8 c9 c10 F.l3 F.l4 F.l5 F.l6 F.l7 F.l8 F.l9 F.l10 w h3 h4 h5 h6 h7 h8 h9 h10 hk
  · rw [if_neg hk, if_neg hk]
    refine (write_no F.s F.d F.f A3 A4 A5 A6 A7 A8 A9 A10 c3 c4 c5 c6 c7 c8 c9 c10 F.l3 F.l4 F.l5 F.l6 F.l7 F.l8 F.l9 F.l10 w h3 h4 h5 h6 h7 h8 h9 h10 (by simpa [checkF] using hk)).mono ?_
    rintro e w' ⟨rfl, hB⟩
    exact ⟨_, rfl, Kd.R_nil _ _ _ _ _, hB⟩

theorem same_of {w : World} {v u : Value} {F G : FontR} (h : FontOf w v F) (h' : FontOf w u G) : Calls Try.prog 11 #[v, u] w fun e w' => e = .returned (.bool (sameF F G)) ∧ Below w.heap.size w w' := by
  obtain ⟨A3, A4, A5, A6, A7, A8, A9, A10, c3, c4, c5, c6, c7, c8, c9, c10, hv, h3, h4, h5, h6, h7, h8, h9, h10⟩ := h
  subst hv
  obtain ⟨B3, B4, B5, B6, B7, B8, B9, B10, e3, e4, e5, e6, e7, e8, e9, e10, hu, k3, k4, k5, k6, k7, k8, k9, k10⟩ := h'
  subst hu
  exact samefont_any F.s F.d F.f G.s G.d G.f A3 B3 A4 B4 A5 B5 A6 B6 A7 B7 A8 B8 A9 B9 A10 B10 c3 e3 c4 e4 c5 e5 c6 e6 c7 e7 c8 e8 c9 e9 c10 e10 F.l3 G.l3 F.l4 G.l4 F.l5 G.l5 F.l6 G.l6 F.l7 G.l7 F.l8 G.l8 F.l9 G.l9 F.l10 G.l10 w h3 k3 h4 k4 h5 k5 h6 k6 h7 k7 h8 k8 h9 k9 h10 k10

/-- The font that bytes are, or none. -/
def readF (l : List Int) : FontR := (rdA l).getD zeroF
def readErr (l : List Int) : Int := if (rdA l).isSome then 0 else 70
theorem read_of {w : World} {A : Option Addr} {c : Nat} {l : List Int} (hC : (Kd.int .u8).C w A l.length l) (hc : l.length ≤ c) (hby : Bytes l) (hl : l.length ≤ 1000000) :
    Calls Try.prog 10 #[.slice A l.length c] w fun e w' => ∃ v, e = .returned (.tuple #[v, .int .i64 (readErr l)]) ∧ FontOf w' v (readF l) ∧ Below w.heap.size w w' := by
  refine (read_any A c l w hC hc hby hl).mono ?_
  rintro e w' ⟨hB, h⟩
  unfold readF readErr
  generalize rdA l = r at h
  cases r with
  | none => exact ⟨_, h, zeroF_of _, hB⟩
  | some F =>
    obtain ⟨v3, v4, v5, v6, v7, v8, v9, v10, he, r3, r4, r5, r6, r7, r8, r9, r10⟩ := h
    obtain ⟨A3, c3, hv3⟩ := Kd.R_slice r3
    obtain ⟨A4, c4, hv4⟩ := Kd.R_slice r4
    obtain ⟨A5, c5, hv5⟩ := Kd.R_slice r5
    obtain ⟨A6, c6, hv6⟩ := Kd.R_slice r6
    obtain ⟨A7, c7, hv7⟩ := Kd.R_slice r7
    obtain ⟨A8, c8, hv8⟩ := Kd.R_slice r8
    obtain ⟨A9, c9, hv9⟩ := Kd.R_slice r9
    obtain ⟨A10, c10, hv10⟩ := Kd.R_slice r10
    subst hv3 hv4 hv5 hv6 hv7 hv8 hv9 hv10
    exact ⟨_, he, ⟨A3, A4, A5, A6, A7, A8, A9, A10, c3, c4, c5, c6, c7, c8, c9, c10, rfl, (Kd.R_reads' r3).2.2, (Kd.R_reads' r4).2.2, (Kd.R_reads' r5).2.2, (Kd.R_reads' r6).2.2, (Kd.R_reads' r7).2.2, (Kd.R_reads' r8).2.2, (Kd.R_reads' r9).2.2, (Kd.R_reads' r10).2.2⟩, hB⟩
end Go.Proofs.Ytllllmhekdcbiaa
