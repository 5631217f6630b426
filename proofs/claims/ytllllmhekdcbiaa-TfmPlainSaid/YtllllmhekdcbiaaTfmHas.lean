/- tfm's Has, walked: whether a font has a character. -/
import Derived.Test.YtllllmhekdcbiaaTfmCheck3
set_option linter.unusedVariables false
set_option linter.unusedSimpArgs false
namespace Go.Proofs.Ytllllmhekdcbiaa
open Go.RowKit Go.Proofs.YtllllmhekdcbiaaW.PrintWords

/-- Whether a font has a character. -/
def hasB (s d f : Int) (l3 : List ChR) (l4 l5 l6 l7 : List Int) (l8 : List StR) (l9 l10 : List Int) (code : Int) : Bool :=
  checkB s d f l3 l4 l5 l6 l7 l8 l9 l10 && decide (f ≤ code) && decide (code < f + l3.length) && decide (0 < (l3.getD (code - f).toNat zCh).w)

theorem check_first {s d f : Int} {l3 : List ChR} {l4 l5 l6 l7 : List Int} {l8 : List StR} {l9 l10 : List Int} (h : checkB s d f l3 l4 l5 l6 l7 l8 l9 l10 = true) : 0 ≤ f ∧ f < 256 ∧ 1 ≤ l3.length ∧ (l3.length : Int) ≤ 256 - f := by
  simp only [checkB, ofB, Bool.and_eq_true, decide_eq_true_eq] at h
  omega

set_option maxHeartbeats 4000000 in
theorem has_any (s d f : Int) (A3 A4 A5 A6 A7 A8 A9 A10 : Option Addr) (c3 c4 c5 c6 c7 c8 c9 c10 : Nat) (l3 : List ChR) (l4 l5 l6 l7 : List Int) (l8 : List StR) (l9 l10 : List Int) (code : Int) (w : World) (h3 : kChar.C w A3 l3.length l3) (h4 : (Kd.int .i64).C w A4 l4.length l4) (h5 : (Kd.int .i64).C w A5 l5.length l5) (h6 : (Kd.int .i64).C w A6 l6.length l6) (h7 : (Kd.int .i64).C w A7 l7.length l7) (h8 : kStep.C w A8 l8.length l8) (h9 : (Kd.int .i64).C w A9 l9.length l9) (h10 : (Kd.int .i64).C w A10 l10.length l10) :
    Calls Try.prog 13 #[.agg #[.int .i64 s, .int .i64 d, .int .i64 f, .slice A3 l3.length c3, .slice A4 l4.length c4, .slice A5 l5.length c5, .slice A6 l6.length c6, .slice A7 l7.length c7, .slice A8 l8.length c8, .slice A9 l9.length c9, .slice A10 l10.length c10], .int .i64 code] w fun e w' => e = .returned (.bool (hasB s d f l3 l4 l5 l6 l7 l8 l9 l10 code)) ∧ Below w.heap.size w w' := by
  have HCK : ∀ W, Below w.heap.size w W → Calls Try.prog 12 #[.agg #[.int .i64 s, .int .i64 d, .int .i64 f, .slice A3 l3.length c3, .slice A4 l4.length c4, .slice A5 l5.length c5, .slice A6 l6.length c6, .slice A7 l7.length c7, .slice A8 l8.length c8, .slice A9 l9.length c9, .slice A10 l10.length c10]] W fun e w' => e = .returned (.bool (checkB s d f l3 l4 l5 l6 l7 l8 l9 l10)) ∧ Below W.heap.size W w' := fun W HB =>
    check_any s d f A3 A4 A5 A6 A7 A8 A9 A10 c3 c4 c5 c6 c7 c8 c9 c10 l3 l4 l5 l6 l7 l8 l9 l10 W (Kd.C_below h3 HB) (Kd.C_below h4 HB) (Kd.C_below h5 HB) (Kd.C_below h6 HB) (Kd.C_below h7 HB) (Kd.C_below h8 HB) (Kd.C_below h9 HB) (Kd.C_below h10 HB)
  have HCA := aside HCK
  have HH := aside h3
  have hm3 := h3.2.1
  have HD := aside (show hasB s d f l3 l4 l5 l6 l7 l8 l9 l10 code = (checkB s d f l3 l4 l5 l6 l7 l8 l9 l10 && decide (f ≤ code) && decide (code < f + l3.length) && decide (0 < (l3.getD (code - f).toNat zCh).w)) from rfl)
  have HF := aside (check_first (s := s) (d := d) (f := f) (l3 := l3) (l4 := l4) (l5 := l5) (l6 := l6) (l7 := l7) (l8 := l8) (l9 := l9) (l10 := l10))
  generalize checkB s d f l3 l4 l5 l6 l7 l8 l9 l10 = ck at HD HF HCA
  generalize hasB s d f l3 l4 l5 l6 l7 l8 l9 l10 code = rr at HD ⊢
  clear h3 h4 h5 h6 h7 h8 h9 h10 HCK
  by_cases hin : f ≤ code ∧ code < f + l3.length
  · obtain ⟨g1, g2⟩ := hin
    have hj : (code - f).toNat < l3.length := by omega
    obtain ⟨ad, hA, hF⟩ := char_cells HH.out (by omega)
    subst hA
    have hcc : w.cell? (ad.add ((code - f).toNat * 6)) = some (.int .i64 (l3.getD (code - f).toNat zCh).w) := (hF _ hj).1
    clear hF HH
    generalize (l3.getD (code - f).toNat zCh).w = y at hcc HD
    go_enter Try.func13, Try.ntmps13
    go_wp2_with fail
    obtain ⟨W, hW⟩ : ∃ W, W = w.alloc (.cells #[.int .i64 s, .int .i64 d, .int .i64 f, .slice (some ad) l3.length c3, .slice A4 l4.length c4, .slice A5 l5.length c5, .slice A6 l6.length c6, .slice A7 l7.length c7, .slice A8 l8.length c8, .slice A9 l9.length c9, .slice A10 l10.length c10] 26) := ⟨_, rfl⟩
    have HBW := aside (show Below w.heap.size w W by rw [hW]; exact below_alloc (Below.refl _ _) _)
    have HK := aside (show W.heap[w.heap.size]? = some (.cells #[.int .i64 s, .int .i64 d, .int .i64 f, .slice (some ad) l3.length c3, .slice A4 l4.length c4, .slice A5 l5.length c5, .slice A6 l6.length c6, .slice A7 l7.length c7, .slice A8 l8.length c8, .slice A9 l9.length c9, .slice A10 l10.length c10] 26 (0, 0)) by rw [hW]; exact blk_new _ _)
    rw [← hW]
    clear hW
    obtain ⟨bx, hbx⟩ : ∃ bx, bx = w.heap.size := ⟨_, rfl⟩
    rw [← hbx] at HK ⊢
    clear hbx
    have f2 := (blk_cell HK.out 2).trans (show _ = some (.int .i64 f) from rfl)
    have f3 := (blk_cell HK.out 3).trans (show _ = some (.slice (some ad) l3.length c3) from rfl)
    replace hcc := pw_cell_below HBW.out hcc
    refine (HCA.out W HBW.out).mono ?_
    rintro e w' ⟨rfl, hb'⟩; have HBn := aside (below_next HBW.out hb'); clear HBW; have HBW := HBn; clear HBn; replace f2 := pw_cell_below hb' f2; replace f3 := pw_cell_below hb' f3
    replace hcc := pw_cell_below hb' hcc
    clear hb' HCA
    cases ck with
    | false =>
      go_wp2
      go_ret
      exact ⟨by rw [HD.out]; rfl, HBW.out⟩
    | true =>
      obtain ⟨k1, k2, k3, k4⟩ := HF.out rfl
      go_wp2
      go_ret
      exact ⟨by rw [HD.out]; first | (simp_all; done) | (simp_all; omega), HBW.out⟩
  · go_enter Try.func13, Try.ntmps13
    go_wp2_with fail
    obtain ⟨W, hW⟩ : ∃ W, W = w.alloc (.cells #[.int .i64 s, .int .i64 d, .int .i64 f, .slice A3 l3.length c3, .slice A4 l4.length c4, .slice A5 l5.length c5, .slice A6 l6.length c6, .slice A7 l7.length c7, .slice A8 l8.length c8, .slice A9 l9.length c9, .slice A10 l10.length c10] 26) := ⟨_, rfl⟩
    have HBW := aside (show Below w.heap.size w W by rw [hW]; exact below_alloc (Below.refl _ _) _)
    have HK := aside (show W.heap[w.heap.size]? = some (.cells #[.int .i64 s, .int .i64 d, .int .i64 f, .slice A3 l3.length c3, .slice A4 l4.length c4, .slice A5 l5.length c5, .slice A6 l6.length c6, .slice A7 l7.length c7, .slice A8 l8.length c8, .slice A9 l9.length c9, .slice A10 l10.length c10] 26 (0, 0)) by rw [hW]; exact blk_new _ _)
    rw [← hW]
    clear hW
    obtain ⟨bx, hbx⟩ : ∃ bx, bx = w.heap.size := ⟨_, rfl⟩
    rw [← hbx] at HK ⊢
    clear hbx
    have f2 := (blk_cell HK.out 2).trans (show _ = some (.int .i64 f) from rfl)
    have f3 := (blk_cell HK.out 3).trans (show _ = some (.slice A3 l3.length c3) from rfl)
    refine (HCA.out W HBW.out).mono ?_
    rintro e w' ⟨rfl, hb'⟩; have HBn := aside (below_next HBW.out hb'); clear HBW; have HBW := HBn; clear HBn; replace f2 := pw_cell_below hb' f2; replace f3 := pw_cell_below hb' f3
    clear hb' HCA
    have HI := aside hin
    clear hin
    cases ck with
    | false =>
      go_wp2
      go_ret
      exact ⟨by rw [HD.out]; rfl, HBW.out⟩
    | true =>
      obtain ⟨k1, k2, k3, k4⟩ := HF.out rfl
      by_cases g1 : f ≤ code
      · have g2 : ¬ code < f + l3.length := fun h => HI.out ⟨g1, h⟩
        go_wp2
        go_ret
        exact ⟨by rw [HD.out]; first | (simp_all; done) | (simp_all; omega), HBW.out⟩
      · go_wp2
        go_ret
        exact ⟨by rw [HD.out]; first | (simp_all; done) | (simp_all; omega), HBW.out⟩
end Go.Proofs.Ytllllmhekdcbiaa
