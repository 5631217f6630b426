/- tfm's Check and what it calls, walked: whether a font may be. -/
import Derived.Test.YtllllmhekdcbiaaIdxInt
import Derived.Test.YtllllmhekdcbiaaIdxChar
import Derived.Test.YtllllmhekdcbiaaIdxStep
import Derived.Test.YtllllmhekdcbiaaKindsTfm
set_option linter.unusedVariables false
set_option linter.unusedSimpArgs false
namespace Go.Proofs.Ytllllmhekdcbiaa
open Go.RowKit Go.Proofs.YtllllmhekdcbiaaW.PrintWords

def ofB (n m : Int) : Bool := decide (0 ≤ n) && decide (n < m)
def fixB (n : Int) : Bool := decide (-16777216 ≤ n) && decide (n < 16777216)

set_option maxHeartbeats 400000 in
theorem of_any (n m : Int) (w : World) : Calls Try.prog 23 #[.int .i64 n, .int .i64 m] w fun e w' => e = .returned (.bool (ofB n m)) ∧ w' = w := by
  by_cases h1 : 0 ≤ n <;> by_cases h2 : n < m
  all_goals
    go_enter Try.func23, Try.ntmps23
    go_wp2
    go_ret
    exact ⟨by simp [ofB, h1, h2], rfl⟩

set_option maxHeartbeats 400000 in
theorem fix_any (n : Int) (w : World) : Calls Try.prog 36 #[.int .i64 n] w fun e w' => e = .returned (.bool (fixB n)) ∧ w' = w := by
  by_cases h1 : -16777216 ≤ n <;> by_cases h2 : n < 16777216
  all_goals
    go_enter Try.func36, Try.ntmps36
    go_wp2
    go_ret
    exact ⟨by simp [fixB, h1, h2], rfl⟩

set_option maxHeartbeats 400000 in
theorem nofix_any (n : Int) (w : World) : Calls Try.prog 35 #[.int .i64 n] w fun e w' => e = .returned (.bool (!fixB n)) ∧ w' = w := by
  go_enter Try.func35, Try.ntmps35
  go_wp2_with (go_at_call 36; refine (fix_any _ _).mono ?_; rintro e w' ⟨rfl, rfl⟩)
  go_ret
  exact ⟨rfl, rfl⟩

def allFix (l : List Int) : Bool := !anyOf (fun j => !fixB (l.getD j 0)) 0 l.length
def tableB (l : List Int) (least most : Int) : Bool :=
  decide (least ≤ l.length) && decide ((l.length : Int) ≤ most) && allFix l && (least == 0 || l.getD 0 0 == 0)

set_option maxHeartbeats 2000000 in
theorem table_any (A : Option Addr) (c : Nat) (l : List Int) (least most : Int) (hl : 0 ≤ least) (w : World) (hC : (Kd.int .i64).C w A l.length l) :
    Calls Try.prog 24 #[.slice A l.length c, .int .i64 least, .int .i64 most] w fun e w' => e = .returned (.bool (tableB l least most)) ∧ Below w.heap.size w w' := by
  have hn : l.length ≤ 9223372036854775807 := hC.2.1
  have hx := contains_Int 35 #[] (enters_of Try.func35 (by kernel_rfl) rfl) A l.length c (fun j => .int .i64 (l.getD j 0)) (fun j => !fixB (l.getD j 0)) w hn (int_cells hC)
    (fun j hj W hW => (nofix_any _ W).mono fun e w' ⟨he, hw⟩ => ⟨he, by subst hw; exact Below.refl _ _⟩)
  have ha := aside (show (!anyOf (fun j => !fixB (l.getD j 0)) 0 l.length) = allFix l from rfl)
  generalize anyOf (fun j => !fixB (l.getD j 0)) 0 l.length = q at hx ha
  have H2 := aside (show tableB l least most = (decide (least ≤ l.length) && decide ((l.length : Int) ≤ most) && !q && (least == 0 || l.getD 0 0 == 0)) by rw [ha.out]; rfl)
  clear ha
  generalize tableB l least most = r at H2 ⊢
  by_cases h3 : least = 0
  · subst h3
    have h1 : (0 : Int) ≤ l.length := by omega
    have h3b : ((0 : Int) == 0) = true := rfl
    by_cases h2 : (l.length : Int) ≤ most
    all_goals
      go_enter Try.func24, Try.ntmps24
      go_wp2_with (go_at_call 37; refine hx.mono ?_; rintro e w' ⟨rfl, hb'⟩; cases q)
      all_goals
        go_ret
        exact ⟨by rw [H2.out]; simp_all <;> omega, by first | exact Below.refl _ _ | assumption⟩
  · have h3b : (least == 0) = false := by simpa using h3
    by_cases h1 : least ≤ l.length
    · have h4 : 0 < l.length := by omega
      obtain ⟨ad, hA, hF⟩ := int_cells hC h4
      subst hA
      have hc0 : w.cell? ad = some (.int .i64 (l.getD 0 0)) := hF 0 h4
      clear hF hC
      generalize l.getD 0 0 = y at hc0 H2
      by_cases h2 : (l.length : Int) ≤ most <;> by_cases hy : y = 0
      all_goals
        go_enter Try.func24, Try.ntmps24
        go_wp2_with (go_at_call 37; refine hx.mono ?_; rintro e w' ⟨rfl, hb'⟩; have hcz := pw_cell_below hb' hc0; cases q)
        all_goals
          go_ret
          exact ⟨by rw [H2.out]; simp_all <;> omega, by first | exact Below.refl _ _ | assumption⟩
    · go_enter Try.func24, Try.ntmps24
      go_wp2
      go_ret
      exact ⟨by rw [H2.out]; simp_all <;> omega, Below.refl _ _⟩
end Go.Proofs.Ytllllmhekdcbiaa
