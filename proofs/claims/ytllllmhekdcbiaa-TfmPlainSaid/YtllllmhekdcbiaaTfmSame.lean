/- compositorref07's Same and Few, walked: whether two fonts are the same; whether a font's lists are short. -/
import Derived.Test.YtllllmhekdcbiaaSame
import Derived.Test.YtllllmhekdcbiaaKindsTfm
set_option linter.unusedVariables false
set_option linter.unusedSimpArgs false
namespace Go.Proofs.Ytllllmhekdcbiaa
open Go.RowKit Go.Proofs.YtllllmhekdcbiaaW.PrintWords

def fewB (l3 : List ChR) (l4 l5 l6 l7 : List Int) (l8 : List StR) (l9 l10 : List Int) : Bool :=
  decide ((l3.length : Int) ≤ 300) && decide ((l8.length : Int) ≤ 300) && decide ((l4.length : Int) ≤ 300) && decide ((l5.length : Int) ≤ 300) && decide ((l6.length : Int) ≤ 300) && decide ((l7.length : Int) ≤ 300) && decide ((l9.length : Int) ≤ 300) && decide ((l10.length : Int) ≤ 300)

set_option maxHeartbeats 2000000 in
theorem few_any (s d f : Int) (A3 A4 A5 A6 A7 A8 A9 A10 : Option Addr) (c3 c4 c5 c6 c7 c8 c9 c10 : Nat) (l3 : List ChR) (l4 l5 l6 l7 : List Int) (l8 : List StR) (l9 l10 : List Int) (w : World) (hm : l3.length ≤ 9223372036854775807 ∧ l4.length ≤ 9223372036854775807 ∧ l5.length ≤ 9223372036854775807 ∧ l6.length ≤ 9223372036854775807 ∧ l7.length ≤ 9223372036854775807 ∧ l8.length ≤ 9223372036854775807 ∧ l9.length ≤ 9223372036854775807 ∧ l10.length ≤ 9223372036854775807) :
    Calls Try.prog 8 #[.agg #[.int .i64 s, .int .i64 d, .int .i64 f, .slice A3 l3.length c3, .slice A4 l4.length c4, .slice A5 l5.length c5, .slice A6 l6.length c6, .slice A7 l7.length c7, .slice A8 l8.length c8, .slice A9 l9.length c9, .slice A10 l10.length c10]] w fun e w' => e = .returned (.bool (fewB l3 l4 l5 l6 l7 l8 l9 l10)) ∧ Below w.heap.size w w' := by
  obtain ⟨m3, m4, m5, m6, m7, m8, m9, m10⟩ := hm
  have HD := aside (show fewB l3 l4 l5 l6 l7 l8 l9 l10 = (decide ((l3.length : Int) ≤ 300) && decide ((l8.length : Int) ≤ 300) && decide ((l4.length : Int) ≤ 300) && decide ((l5.length : Int) ≤ 300) && decide ((l6.length : Int) ≤ 300) && decide ((l7.length : Int) ≤ 300) && decide ((l9.length : Int) ≤ 300) && decide ((l10.length : Int) ≤ 300)) from rfl)
  generalize fewB l3 l4 l5 l6 l7 l8 l9 l10 = rr at HD ⊢
  go_enter Try.func8, Try.ntmps8
  go_wp2_with fail
  all_goals
    go_ret
    exact ⟨by rw [HD.out]; first | (simp_all; done) | (simp_all; omega) | (simp_all <;> omega), below_alloc (Below.refl _ _) _⟩
end Go.Proofs.Ytllllmhekdcbiaa
