/- tfm's Check, and Has, walked: whether a font may be, whether it has a character. -/
import Derived.Test.YtllllmhekdcbiaaTfmCheck
set_option linter.unusedVariables false
set_option linter.unusedSimpArgs false
namespace Go.Proofs.Ytllllmhekdcbiaa
open Go.RowKit Go.Proofs.YtllllmhekdcbiaaW.PrintWords

def charB (nW nH nD nI nS : Nat) (c : ChR) : Bool :=
  (((c.t == 0 && c.r == 0) || (c.t == 1 && ofB c.r nS)) && ofB c.w nW && ofB c.h nH && ofB c.d nD && ofB c.i nI)

set_option maxHeartbeats 2000000 in
theorem char_any (s d f : Int) (A3 A4 A5 A6 A7 A8 A9 A10 : Option Addr) (n3 n4 n5 n6 n7 n8 n9 n10 c3 c4 c5 c6 c7 c8 c9 c10 : Nat) (c : ChR) (w : World) :
    Calls Try.prog 27 #[.agg #[.int .i64 s, .int .i64 d, .int .i64 f, .slice A3 n3 c3, .slice A4 n4 c4, .slice A5 n5 c5, .slice A6 n6 c6, .slice A7 n7 c7, .slice A8 n8 c8, .slice A9 n9 c9, .slice A10 n10 c10],
        .agg #[.int .i64 c.w, .int .i64 c.h, .int .i64 c.d, .int .i64 c.i, .int .i64 c.t, .int .i64 c.r]] w
      fun e w' => e = .returned (.bool (charB n4 n5 n6 n7 n8 c)) ∧ Below w.heap.size w w' := by
  obtain ⟨cW, cH, cD, cI, cT, cR⟩ := c
  dsimp only
  go_enter Try.func27, Try.ntmps27
  go_wp2_with (go_at_call 23; refine (of_any _ _ _).mono ?_; rintro e w' ⟨rfl, rfl⟩; generalize hB : ofB _ _ = b; cases b)
  all_goals
    go_ret
    refine ⟨?_, ?_⟩
    · simp_all [charB]
    · repeat (first | exact Below.refl _ _ | refine below_alloc ?_ _)

def stepB (x : StR) : Bool := ofB x.s 256 && ofB x.n 256 && ofB x.o 256 && ofB x.r 256

set_option maxHeartbeats 400000 in
theorem noof_any (n : Int) (w : World) : Calls Try.prog 40 #[.int .i64 n] w fun e w' => e = .returned (.bool (!ofB n 256)) ∧ w' = w := by
  go_enter Try.func40, Try.ntmps40
  go_wp2_with (go_at_call 23; refine (of_any _ _ _).mono ?_; rintro e w' ⟨rfl, rfl⟩)
  go_ret
  exact ⟨rfl, rfl⟩

theorem four_any (p q r t : Int) : (!anyOf (fun j => !ofB ([p, q, r, t].getD j 0) 256) 0 4) = (ofB p 256 && ofB q 256 && ofB r 256 && ofB t 256) := by
  simp only [anyOf, List.getD_cons_zero, List.getD_cons_succ]
  cases ofB p 256 <;> cases ofB q 256 <;> cases ofB r 256 <;> cases ofB t 256 <;> rfl

set_option maxHeartbeats 2000000 in
theorem step_any (x : StR) (w : World) :
    Calls Try.prog 30 #[.agg #[.int .i64 x.s, .int .i64 x.n, .int .i64 x.o, .int .i64 x.r]] w fun e w' => e = .returned (.bool (stepB x)) ∧ Below w.heap.size w w' := by
  obtain ⟨p, q, r, t⟩ := x
  dsimp only
  have hx : ∀ (W : World) (ad : Addr) (_ : ∀ j, j < 4 → W.cell? (ad.add j) = some (.int .i64 ([p, q, r, t].getD j 0))), Calls Try.prog 37 #[.slice (some ad) 4 4, .func (.func 40) #[] #[]] W fun e w' => e = .returned (.bool (!stepB ⟨p, q, r, t⟩)) ∧ Below W.heap.size W w' := by
    intro W ad hF
    have hy := contains_Int 40 #[] (enters_of Try.func40 (by kernel_rfl) rfl) (some ad) 4 4 (fun j => .int .i64 ([p, q, r, t].getD j 0)) (fun j => !ofB ([p, q, r, t].getD j 0) 256) W (by omega) (fun _ => ⟨ad, rfl, hF⟩)
      (fun j hj W' hW' => (noof_any _ W').mono fun e w' ⟨he, hw⟩ => ⟨he, by subst hw; exact Below.refl _ _⟩)
    rw [show anyOf (fun j => !ofB ([p, q, r, t].getD j 0) 256) 0 4 = !stepB ⟨p, q, r, t⟩ from by have h := four_any p q r t; simp only [stepB]; rw [← h, Bool.not_not]] at hy
    exact hy
  generalize stepB ⟨p, q, r, t⟩ = b at hx ⊢
  go_enter Try.func30, Try.ntmps30
  go_wp2_with fail
  refine (hx _ _ ?hF).mono ?_
  case hF =>
    intro j hj
    match j, hj with
    | 0, _ => simp [Addr.add]
    | 1, _ => simp [Addr.add]
    | 2, _ => simp [Addr.add]
    | 3, _ => simp [Addr.add]
  rintro e w' ⟨rfl, hb'⟩
  go_wp2
  go_ret
  exact ⟨by simp, below_next (by repeat (first | exact Below.refl _ _ | refine below_alloc ?_ _)) hb'⟩

theorem nochar_any (s d f : Int) (A3 A4 A5 A6 A7 A8 A9 A10 : Option Addr) (n3 n4 n5 n6 n7 n8 n9 n10 c3 c4 c5 c6 c7 c8 c9 c10 : Nat) (c : ChR) (w : World) (b : Nat)
    (hb : w.heap[b]? = some (.cells #[.int .i64 s, .int .i64 d, .int .i64 f, .slice A3 n3 c3, .slice A4 n4 c4, .slice A5 n5 c5, .slice A6 n6 c6, .slice A7 n7 c7, .slice A8 n8 c8, .slice A9 n9 c9, .slice A10 n10 c10] 26 (0, 0))) :
    Calls Try.prog 26 #[.agg #[.int .i64 c.w, .int .i64 c.h, .int .i64 c.d, .int .i64 c.i, .int .i64 c.t, .int .i64 c.r], .pointer (some ⟨b, 0, none⟩)] w
      fun e w' => e = .returned (.bool (!charB n4 n5 n6 n7 n8 c)) ∧ Below w.heap.size w w' := by
  have hlt : b < w.heap.size := blk_lt hb
  have hc0 : w.cell? ⟨b, 0, none⟩ = some (.int .i64 s) := (blk_cell hb 0).trans rfl
  have hc1 : w.cell? ⟨b, 1, none⟩ = some (.int .i64 d) := (blk_cell hb 1).trans rfl
  have hc2 : w.cell? ⟨b, 2, none⟩ = some (.int .i64 f) := (blk_cell hb 2).trans rfl
  have hc3 : w.cell? ⟨b, 3, none⟩ = some (.slice A3 n3 c3) := (blk_cell hb 3).trans rfl
  have hc4 : w.cell? ⟨b, 4, none⟩ = some (.slice A4 n4 c4) := (blk_cell hb 4).trans rfl
  have hc5 : w.cell? ⟨b, 5, none⟩ = some (.slice A5 n5 c5) := (blk_cell hb 5).trans rfl
  have hc6 : w.cell? ⟨b, 6, none⟩ = some (.slice A6 n6 c6) := (blk_cell hb 6).trans rfl
  have hc7 : w.cell? ⟨b, 7, none⟩ = some (.slice A7 n7 c7) := (blk_cell hb 7).trans rfl
  have hc8 : w.cell? ⟨b, 8, none⟩ = some (.slice A8 n8 c8) := (blk_cell hb 8).trans rfl
  have hc9 : w.cell? ⟨b, 9, none⟩ = some (.slice A9 n9 c9) := (blk_cell hb 9).trans rfl
  have hc10 : w.cell? ⟨b, 10, none⟩ = some (.slice A10 n10 c10) := (blk_cell hb 10).trans rfl
  clear hb
  go_enter Try.func26, Try.ntmps26
  go_wp2_with (go_at_call 27; refine (char_any _ _ _ _ _ _ _ _ _ _ _ _ _ _ _ _ _ _ _ _ _ _ _ _ _ _ _ c _).mono ?_; rintro e w' ⟨rfl, hb'⟩)
  go_ret
  exact ⟨rfl, below_next (by repeat (first | exact Below.refl _ _ | refine below_alloc ?_ _)) hb'⟩

theorem nostep_any (x : StR) (w : World) :
    Calls Try.prog 29 #[.agg #[.int .i64 x.s, .int .i64 x.n, .int .i64 x.o, .int .i64 x.r]] w fun e w' => e = .returned (.bool (!stepB x)) ∧ Below w.heap.size w w' := by
  go_enter Try.func29, Try.ntmps29
  go_wp2_with (go_at_call 30; refine (step_any x _).mono ?_; rintro e w' ⟨rfl, hb'⟩)
  go_ret
  exact ⟨rfl, below_next (by repeat (first | exact Below.refl _ _ | refine below_alloc ?_ _)) hb'⟩
end Go.Proofs.Ytllllmhekdcbiaa
