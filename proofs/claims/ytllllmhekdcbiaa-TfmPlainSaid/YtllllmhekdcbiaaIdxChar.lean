/- slices.IndexFunc and slices.ContainsFunc at elements of 6 cells: the first element at which a predicate holds; whether there is one. -/
import Derived.Test.YtllllmhekdcbiaaBase
set_option linter.unusedVariables false
set_option linter.unusedSimpArgs false
namespace Go.Proofs.Ytllllmhekdcbiaa
open Go.RowKit Go.Proofs.YtllllmhekdcbiaaW.PrintWords

set_option maxHeartbeats 1000000 in
theorem index_Char (g : Nat) (lb : Array Value) (eg : ∀ args w, (callFunc g args).run Try.prog w = .ok (.enter g args) w) (A : Option Addr) (n c : Nat) (c0 c1 c2 c3 c4 c5 : Nat → Value) (p : Nat → Bool) (w : World)
    (hn : n ≤ 9223372036854775807) (hC : 0 < n → ∃ ad, A = some ad ∧ ∀ j, j < n → w.cell? (ad.add (j * 6 + 0)) = some (c0 j) ∧ w.cell? (ad.add (j * 6 + 1)) = some (c1 j) ∧ w.cell? (ad.add (j * 6 + 2)) = some (c2 j) ∧ w.cell? (ad.add (j * 6 + 3)) = some (c3 j) ∧ w.cell? (ad.add (j * 6 + 4)) = some (c4 j) ∧ w.cell? (ad.add (j * 6 + 5)) = some (c5 j)) (hp : PredOn g lb n (fun j => .agg #[c0 j, c1 j, c2 j, c3 j, c4 j, c5 j]) p w) :
    Calls Try.prog 38 #[.slice A n c, .func (.func g) #[] lb] w fun e w' => e = .returned (.int .i64 (firstOf p 0 n)) ∧ Below w.heap.size w w' := by
  go_enter Try.func38, Try.ntmps38
  go_wp2
  go_loopg [5, 8] n (fun gg _ s8 wr => ∃ kk : Nat, kk ≤ n ∧ n - kk ≤ gg ∧ s8 = .int .i64 kk ∧ Aside (Below w.heap.size w wr) ∧ Aside (firstOf p 0 n = firstOf p kk (n - kk)))
  case atStart => exact ⟨0, Nat.zero_le _, by omega, rfl, Below.refl _ w, rfl⟩
  case round =>
    obtain ⟨kk, hkk, hg, rfl, BW, F⟩ := hrel
    by_cases hlt : kk < n
    · have hltz : (kk : Int) < (n : Int) := by omega
      obtain ⟨ad, hA, hF⟩ := hC (by omega)
      subst hA
      obtain ⟨h0_, h1_, h2_, h3_, h4_, h5_⟩ := hF kk hlt
      have hc0 : wr.cell? (ad.add (kk * 6)) = some (c0 kk) := pw_cell_below BW.out h0_
      have hc1 : wr.cell? ⟨(ad.add (kk * 6)).block, (ad.add (kk * 6)).off + 1, none⟩ = some (c1 kk) := by rw [← add_field _ _ 1 (by omega)]; exact pw_cell_below BW.out h1_
      have hc2 : wr.cell? ⟨(ad.add (kk * 6)).block, (ad.add (kk * 6)).off + 2, none⟩ = some (c2 kk) := by rw [← add_field _ _ 2 (by omega)]; exact pw_cell_below BW.out h2_
      have hc3 : wr.cell? ⟨(ad.add (kk * 6)).block, (ad.add (kk * 6)).off + 3, none⟩ = some (c3 kk) := by rw [← add_field _ _ 3 (by omega)]; exact pw_cell_below BW.out h3_
      have hc4 : wr.cell? ⟨(ad.add (kk * 6)).block, (ad.add (kk * 6)).off + 4, none⟩ = some (c4 kk) := by rw [← add_field _ _ 4 (by omega)]; exact pw_cell_below BW.out h4_
      have hc5 : wr.cell? ⟨(ad.add (kk * 6)).block, (ad.add (kk * 6)).off + 5, none⟩ = some (c5 kk) := by rw [← add_field _ _ 5 (by omega)]; exact pw_cell_below BW.out h5_
      clear h0_ h1_ h2_ h3_ h4_ h5_
      have hcall := hp kk hlt wr BW.out
      have ef := firstOf_step (p := p) hlt
      dsimp only at hcall
      clear hp hC hF
      generalize c0 kk = y0 at hc0 hcall
      generalize c1 kk = y1 at hc1 hcall
      generalize c2 kk = y2 at hc2 hcall
      generalize c3 kk = y3 at hc3 hcall
      generalize c4 kk = y4 at hc4 hcall
      generalize c5 kk = y5 at hc5 hcall
      cases hq : p kk with
      | true =>
        have HR : Aside (firstOf p 0 n = kk) := by
          show firstOf p 0 n = kk
          rw [F.out, ef, hq]; rfl
        rw [hq] at hcall
        clear ef F hq
        go_wp2_with (go_at_fn g; refine hcall.mono ?_; rintro e w' ⟨rfl, hb'⟩)
        go_ret
        exact ⟨by rw [HR.out]; rfl, below_next BW.out hb'⟩
      | false =>
        have HR : Aside (firstOf p 0 n = firstOf p (kk + 1) (n - (kk + 1))) := by
          show firstOf p 0 n = firstOf p (kk + 1) (n - (kk + 1))
          rw [F.out, ef, hq]; rfl
        rw [hq] at hcall
        clear ef F hq
        go_wp2_with (go_at_fn g; refine hcall.mono ?_; rintro e w' ⟨rfl, hb'⟩)
        go_roundg (n - (kk + 1))
        case measure => omega
        case rel => exact ⟨kk + 1, by omega, by omega, by go_num, below_next BW.out hb', HR⟩
    · have hltz : ¬ (kk : Int) < (n : Int) := by omega
      have : kk = n := by omega
      subst this
      have HR : Aside (firstOf p 0 kk = -1) := by
        show firstOf p 0 kk = -1
        rw [F.out, Nat.sub_self]; rfl
      clear F hC hp
      go_wp2
      go_ret
      exact ⟨by rw [HR.out]; rfl, BW.out⟩

set_option maxHeartbeats 1000000 in
theorem contains_Char (g : Nat) (lb : Array Value) (eg : ∀ args w, (callFunc g args).run Try.prog w = .ok (.enter g args) w) (A : Option Addr) (n c : Nat) (c0 c1 c2 c3 c4 c5 : Nat → Value) (p : Nat → Bool) (w : World)
    (hn : n ≤ 9223372036854775807) (hC : 0 < n → ∃ ad, A = some ad ∧ ∀ j, j < n → w.cell? (ad.add (j * 6 + 0)) = some (c0 j) ∧ w.cell? (ad.add (j * 6 + 1)) = some (c1 j) ∧ w.cell? (ad.add (j * 6 + 2)) = some (c2 j) ∧ w.cell? (ad.add (j * 6 + 3)) = some (c3 j) ∧ w.cell? (ad.add (j * 6 + 4)) = some (c4 j) ∧ w.cell? (ad.add (j * 6 + 5)) = some (c5 j)) (hp : PredOn g lb n (fun j => .agg #[c0 j, c1 j, c2 j, c3 j, c4 j, c5 j]) p w) :
    Calls Try.prog 25 #[.slice A n c, .func (.func g) #[] lb] w fun e w' => e = .returned (.bool (anyOf p 0 n)) ∧ Below w.heap.size w w' := by
  have hx := index_Char g lb eg A n c c0 c1 c2 c3 c4 c5 p w hn hC hp
  have HR := aside (firstOf_any p n 0)
  generalize anyOf p 0 n = r at HR ⊢
  clear hp hC
  generalize firstOf p 0 n = q at hx HR
  go_enter Try.func25, Try.ntmps25
  go_wp2_with (go_at_call 38; refine hx.mono ?_; rintro e w' ⟨rfl, hb'⟩)
  go_ret
  exact ⟨by rw [← HR.out]; rfl, hb'⟩
end Go.Proofs.Ytllllmhekdcbiaa
