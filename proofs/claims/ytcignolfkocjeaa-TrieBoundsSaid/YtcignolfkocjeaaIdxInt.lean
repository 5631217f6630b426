/- slices.IndexFunc and slices.ContainsFunc at elements of 1 cells: the first element at which a predicate holds; whether there is one. -/
import Derived.Test.YtcignolfkocjeaaBase
set_option linter.unusedVariables false
set_option linter.unusedSimpArgs false
namespace Go.Proofs.Ytcignolfkocjeaa
open Go.RowKit Go.Proofs.YtcignolfkocjeaaW.PrintWords

set_option maxHeartbeats 1000000 in
theorem index_Int (g : Nat) (lb : Array Value) (eg : ∀ args w, (callFunc g args).run Try.prog w = .ok (.enter g args) w) (A : Option Addr) (n c : Nat) (c0 : Nat → Value) (p : Nat → Bool) (w : World)
    (hn : n ≤ 9223372036854775807) (hC : 0 < n → ∃ ad, A = some ad ∧ ∀ j, j < n → w.cell? (ad.add j) = some (c0 j)) (hp : PredOn g lb n (fun j => c0 j) p w) :
    Calls Try.prog 39 #[.slice A n c, .func (.func g) #[] lb] w fun e w' => e = .returned (.int .i64 (firstOf p 0 n)) ∧ Below w.heap.size w w' := by
  go_enter Try.func39, Try.ntmps39
  go_wp2
  go_loopg [5, 8] n (fun gg _ s8 wr => ∃ kk : Nat, kk ≤ n ∧ n - kk ≤ gg ∧ s8 = .int .i64 kk ∧ Aside (Below w.heap.size w wr) ∧ Aside (firstOf p 0 n = firstOf p kk (n - kk)))
  case atStart => exact ⟨0, Nat.zero_le _, by omega, rfl, Below.refl _ w, rfl⟩
  case round =>
    obtain ⟨kk, hkk, hg, rfl, BW, F⟩ := hrel
    by_cases hlt : kk < n
    · have hltz : (kk : Int) < (n : Int) := by omega
      obtain ⟨ad, hA, hF⟩ := hC (by omega)
      subst hA
      have hc0 : wr.cell? (ad.add kk) = some (c0 kk) := pw_cell_below BW.out (hF kk hlt)
      have hcall := hp kk hlt wr BW.out
      have ef := firstOf_step (p := p) hlt
      dsimp only at hcall
      clear hp hC hF
      generalize c0 kk = y0 at hc0 hcall
      cases hq : p kk with
      | true =>
        have HR : Aside (firstOf p 0 n = kk) := by
          show firstOf p 0 n = kk
          rw [F.out, ef, hq]; rfl
        rw [hq] at hcall
        clear ef F hq
        go_wp2_with (go_at_fn g; refine hcall.mono ?_; rintro e w' ⟨rfl, hb'⟩)
        go_ret
        exact ⟨by rw [HR.out]; rfl, below_next BW.out hb'⟩
      | false =>
        have HR : Aside (firstOf p 0 n = firstOf p (kk + 1) (n - (kk + 1))) := by
          show firstOf p 0 n = firstOf p (kk + 1) (n - (kk + 1))
          rw [F.out, ef, hq]; rfl
        rw [hq] at hcall
        clear ef F hq
        go_wp2_with (go_at_fn g; refine hcall.mono ?_; rintro e w' ⟨rfl, hb'⟩)
        go_roundg (n - (kk + 1))
        case measure => omega
        case rel => exact ⟨kk + 1, by omega, by omega, by go_num, below_next BW.out hb', HR⟩
    · have hltz : ¬ (kk : Int) < (n : Int) := by omega
      have : kk = n := by omega
      subst this
      have HR : Aside (firstOf p 0 kk = -1) := by
        show firstOf p 0 kk = -1
        rw [F.out, Nat.sub_self]; rfl
      clear F hC hp
      go_wp2
      go_ret
      exact ⟨by rw [HR.out]; rfl, BW.out⟩

set_option maxHeartbeats 1000000 in
theorem contains_Int (g : Nat) (lb : Array Value) (eg : ∀ args w, (callFunc g args).run Try.prog w = .ok (.enter g args) w) (A : Option Addr) (n c : Nat) (c0 : Nat → Value) (p : Nat → Bool) (w : World)
    (hn : n ≤ 9223372036854775807) (hC : 0 < n → ∃ ad, A = some ad ∧ ∀ j, j < n → w.cell? (ad.add j) = some (c0 j)) (hp : PredOn g lb n (fun j => c0 j) p w) :
    Calls Try.prog 63 #[.slice A n c, .func (.func g) #[] lb] w fun e w' => e = .returned (.bool (anyOf p 0 n)) ∧ Below w.heap.size w w' := by
  have hx := index_Int g lb eg A n c c0 p w hn hC hp
  have HR := aside (firstOf_any p n 0)
  generalize anyOf p 0 n = r at HR ⊢
  clear hp hC
  generalize firstOf p 0 n = q at hx HR
  go_enter Try.func63, Try.ntmps63
  go_wp2_with (go_at_call 39; refine hx.mono ?_; rintro e w' ⟨rfl, hb'⟩)
  go_ret
  exact ⟨by rw [← HR.out]; rfl, hb'⟩
end Go.Proofs.Ytcignolfkocjeaa
