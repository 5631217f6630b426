/- compositorlaw07.TfmHas, walked. -/
import Derived.Test.YtllllmhekdcbiaaTfmAwake
set_option linter.unusedVariables false
set_option linter.unusedSimpArgs false
namespace Go.Proofs.Ytllllmhekdcbiaa
open Go.RowKit Go.Proofs.YtllllmhekdcbiaaW.PrintWords

set_option maxHeartbeats 8000000 in
theorem lawhas_any (F : FontR) (v : Value) (code : Int) (w : World) (h : FontOf w v F) (hr : -9223372036854775808 ≤ code ∧ code < 9223372036854775808) :
    Calls Try.prog 6 #[v, .int .i64 code] w fun e w' => e = .returned (.bool true) ∧ Below w.heap.size w w' := by
  have HF := aside h
  obtain ⟨A3, A4, A5, A6, A7, A8, A9, A10, c3, c4, c5, c6, c7, c8, c9, c10, hv, h3, h4, h5, h6, h7, h8, h9, h10⟩ := h
  subst hv
  have HC := aside h3
  have m3 := h3.2.1; have m4 := h4.2.1; have m5 := h5.2.1; have m6 := h6.2.1; have m7 := h7.2.1; have m8 := h8.2.1; have m9 := h9.2.1; have m10 := h10.2.1
  clear h3 h4 h5 h6 h7 h8 h9 h10
  go_enter Try.func6, Try.ntmps6
  go_wp2_with fail
  obtain ⟨W, hW⟩ : ∃ W, W = w.alloc (.cells #[.int .i64 F.s, .int .i64 F.d, .int .i64 F.f, .slice A3 F.l3.length c3, .slice A4 F.l4.length c4, .slice A5 F.l5.length c5, .slice A6 F.l6.length c6, .slice A7 F.l7.length c7, .slice A8 F.l8.length c8, .slice A9 F.l9.length c9, .slice A10 F.l10.length c10] 26) := ⟨_, rfl⟩
  have hb : Below w.heap.size w W := by rw [hW]; exact below_alloc (Below.refl _ _) _
  have HX := aside (show W.heap[w.heap.size]? = some (.cells #[.int .i64 F.s, .int .i64 F.d, .int .i64 F.f, .slice A3 F.l3.length c3, .slice A4 F.l4.length c4, .slice A5 F.l5.length c5, .slice A6 F.l6.length c6, .slice A7 F.l7.length c7, .slice A8 F.l8.length c8, .slice A9 F.l9.length c9, .slice A10 F.l10.length c10] 26 (0, 0)) by rw [hW]; exact blk_new _ _)
  rw [← hW]
  clear hW
  replace HF := aside (HF.out.below hb)
  replace HC := aside (Kd.C_below HC.out hb)
  have HB := aside hb
  clear hb
  obtain ⟨bx, hbx⟩ : ∃ bx, bx = w.heap.size := ⟨_, rfl⟩
  rw [← hbx] at HX ⊢
  clear hbx
  obtain ⟨y0, y1, y2, y3, y4, y5, y6, y7, y8, y9, y10⟩ := font_cells HX.out
  refine (awake_any W).mono ?_
  rintro e w1 ⟨rfl, hb⟩
  replace HF := aside (HF.out.below hb)
  replace HX := aside (blk_below HX.out hb)
  replace HB := aside (below_next HB.out hb)
  replace HC := aside (Kd.C_below HC.out hb)
  replace y0 := pw_cell_below hb y0
  replace y1 := pw_cell_below hb y1
  replace y2 := pw_cell_below hb y2
  replace y3 := pw_cell_below hb y3
  replace y4 := pw_cell_below hb y4
  replace y5 := pw_cell_below hb y5
  replace y6 := pw_cell_below hb y6
  replace y7 := pw_cell_below hb y7
  replace y8 := pw_cell_below hb y8
  replace y9 := pw_cell_below hb y9
  replace y10 := pw_cell_below hb y10
  clear hb
  by_cases hfew : F.l3.length ≤ 300 ∧ F.l4.length ≤ 300 ∧ F.l5.length ≤ 300 ∧ F.l6.length ≤ 300 ∧ F.l7.length ≤ 300 ∧ F.l8.length ≤ 300 ∧ F.l9.length ≤ 300 ∧ F.l10.length ≤ 300
  rotate_left
  · go_wp2_with fail
    all_goals first
      | (go_ret; exact ⟨rfl, HB.out⟩)
      | (exfalso; omega)
  obtain ⟨f3, f4, f5, f6, f7, f8, f9, f10⟩ := hfew
  have g3 : ¬ 300 < (F.l3.length : Int) := by omega
  have g4 : ¬ 300 < (F.l4.length : Int) := by omega
  have g5 : ¬ 300 < (F.l5.length : Int) := by omega
  have g6 : ¬ 300 < (F.l6.length : Int) := by omega
  have g7 : ¬ 300 < (F.l7.length : Int) := by omega
  have g8 : ¬ 300 < (F.l8.length : Int) := by omega
  have g9 : ¬ 300 < (F.l9.length : Int) := by omega
  have g10 : ¬ 300 < (F.l10.length : Int) := by omega
  go_wp2_with fail
  refine (has_of code HF.out).mono ?_
  rintro e w2 ⟨rfl, hb⟩
  replace HF := aside (HF.out.below hb)
  replace HX := aside (blk_below HX.out hb)
  replace HB := aside (below_next HB.out hb)
  replace HC := aside (Kd.C_below HC.out hb)
  replace y0 := pw_cell_below hb y0
  replace y1 := pw_cell_below hb y1
  replace y2 := pw_cell_below hb y2
  replace y3 := pw_cell_below hb y3
  replace y4 := pw_cell_below hb y4
  replace y5 := pw_cell_below hb y5
  replace y6 := pw_cell_below hb y6
  replace y7 := pw_cell_below hb y7
  replace y8 := pw_cell_below hb y8
  replace y9 := pw_cell_below hb y9
  replace y10 := pw_cell_below hb y10
  clear hb
  go_wp2_with fail
  refine (check_of HF.out).mono ?_
  rintro e w3 ⟨rfl, hb⟩
  replace HF := aside (HF.out.below hb)
  replace HX := aside (blk_below HX.out hb)
  replace HB := aside (below_next HB.out hb)
  replace HC := aside (Kd.C_below HC.out hb)
  replace y0 := pw_cell_below hb y0
  replace y1 := pw_cell_below hb y1
  replace y2 := pw_cell_below hb y2
  replace y3 := pw_cell_below hb y3
  replace y4 := pw_cell_below hb y4
  replace y5 := pw_cell_below hb y5
  replace y6 := pw_cell_below hb y6
  replace y7 := pw_cell_below hb y7
  replace y8 := pw_cell_below hb y8
  replace y9 := pw_cell_below hb y9
  replace y10 := pw_cell_below hb y10
  clear hb
  unfold hasB
  cases hk : checkF F with
  | false =>
    have hk2 : checkB F.s F.d F.f F.l3 F.l4 F.l5 F.l6 F.l7 F.l8 F.l9 F.l10 = false := hk
    rw [hk2]
    simp only [Bool.false_and]
    go_wp2_with fail
    go_ret
    exact ⟨rfl, HB.out⟩
  | true =>
    have hk2 : checkB F.s F.d F.f F.l3 F.l4 F.l5 F.l6 F.l7 F.l8 F.l9 F.l10 = true := hk
    obtain ⟨q1, q2, q3, q4⟩ := check_first hk2
    rw [hk2]
    simp only [Bool.true_and]
    by_cases h1 : F.f ≤ code
    rotate_left
    · rw [decide_eq_false h1]
      simp only [Bool.false_and]
      go_wp2_with fail
      go_ret
      exact ⟨rfl, HB.out⟩
    by_cases h2 : code < F.f + F.l3.length
    rotate_left
    · rw [decide_eq_false h2]
      simp only [Bool.and_false, Bool.false_and]
      go_wp2_with fail
      go_ret
      exact ⟨rfl, HB.out⟩
    obtain ⟨k, hkk⟩ : ∃ k : Nat, code - F.f = k := ⟨(code - F.f).toNat, by omega⟩
    have hkl : k < F.l3.length := by omega
    obtain ⟨ad, hAd, hcs⟩ := char_cells HC.out (by omega)
    subst hAd
    have hc0 : w3.cell? (ad.add (k * 6)) = some (.int .i64 (F.l3.getD k zCh).w) := (hcs k hkl).1
    have hw0 := (char_ranges hk2 k hkl).1
    rw [decide_eq_true h1, decide_eq_true h2, hkk, Int.toNat_natCast]
    simp only [Bool.true_and]
    generalize (F.l3.getD k zCh).w = cw at hc0 hw0
    clear hcs
    have hc1 : k = 0 → w3.cell? ad = some (.int .i64 cw) := fun e => by subst e; exact hc0
    have hpos : 0 ≤ code - F.f := by omega
    have hcd : code = F.f + k := by omega
    have hpq : decide (0 < cw) = (cw != 0) := by
      by_cases h : cw = 0
      · subst h; rfl
      · have h' : 0 < cw := by omega
        simp [h, h']
    rw [hpq]
    subst hcd
    clear hpq
    by_cases hk0 : k = 0
    · subst hk0
      have hc2 := hc1 rfl
      clear hc1 hc0
      go_wp2_with fail
      all_goals first
        | (go_ret; exact ⟨by simp, HB.out⟩)
        | (exfalso; omega)

    · have hkp : 0 < k := by omega
      clear hc1
      go_wp2_with fail
      all_goals first
        | (go_ret; exact ⟨by simp, HB.out⟩)
        | (exfalso; omega)

end Go.Proofs.Ytllllmhekdcbiaa
