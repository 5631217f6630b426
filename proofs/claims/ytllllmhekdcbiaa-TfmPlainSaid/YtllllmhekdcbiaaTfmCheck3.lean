/- tfm's Check, and Has, walked: whether a font may be, whether it has a character. -/
import Derived.Test.YtllllmhekdcbiaaTfmCheck2
set_option linter.unusedVariables false
set_option linter.unusedSimpArgs false
namespace Go.Proofs.Ytllllmhekdcbiaa
open Go.RowKit Go.Proofs.YtllllmhekdcbiaaW.PrintWords

def charsB (l3 : List ChR) (nW nH nD nI nS : Nat) : Bool := !anyOf (fun j => !charB nW nH nD nI nS (l3.getD j zCh)) 0 l3.length
def stepsB (l8 : List StR) : Bool := !anyOf (fun j => !stepB (l8.getD j zSt)) 0 l8.length
/-- Whether a font may be. -/
def checkB (s d f : Int) (l3 : List ChR) (l4 l5 l6 l7 : List Int) (l8 : List StR) (l9 l10 : List Int) : Bool :=
  ofB s 4294967296 && decide (1048576 ≤ d) && decide (d < 2147483648) && ofB f 256 && decide (1 ≤ (l3.length : Int)) && decide ((l3.length : Int) ≤ 256 - f) && decide ((l8.length : Int) ≤ 256) &&
  tableB l4 1 256 && tableB l5 1 16 && tableB l6 1 16 && tableB l7 1 64 && tableB l9 0 256 && tableB l10 0 30 && charsB l3 l4.length l5.length l6.length l7.length l8.length && stepsB l8

theorem chars_any (s d f : Int) (A3 A4 A5 A6 A7 A8 A9 A10 : Option Addr) (c3 c4 c5 c6 c7 c8 c9 c10 : Nat) (l3 : List ChR) (l4 l5 l6 l7 : List Int) (l8 : List StR) (l9 l10 : List Int) (w W : World) (b : Nat) (h3 : kChar.C w A3 l3.length l3) (h4 : (Kd.int .i64).C w A4 l4.length l4) (h5 : (Kd.int .i64).C w A5 l5.length l5) (h6 : (Kd.int .i64).C w A6 l6.length l6) (h7 : (Kd.int .i64).C w A7 l7.length l7) (h8 : kStep.C w A8 l8.length l8) (h9 : (Kd.int .i64).C w A9 l9.length l9) (h10 : (Kd.int .i64).C w A10 l10.length l10) (HB : Below w.heap.size w W)
    (hb : W.heap[b]? = some (.cells #[.int .i64 s, .int .i64 d, .int .i64 f, .slice A3 l3.length c3, .slice A4 l4.length c4, .slice A5 l5.length c5, .slice A6 l6.length c6, .slice A7 l7.length c7, .slice A8 l8.length c8, .slice A9 l9.length c9, .slice A10 l10.length c10] 26 (0, 0))) :
    Calls Try.prog 25 #[.slice A3 l3.length c3, .func (.func 26) #[] #[.pointer (some ⟨b, 0, none⟩)]] W
      fun e w' => e = .returned (.bool (!charsB l3 l4.length l5.length l6.length l7.length l8.length)) ∧ Below W.heap.size W w' := by
  have hc := Kd.C_below h3 HB
  have hy := contains_Char 26 #[.pointer (some ⟨b, 0, none⟩)] (enters_of Try.func26 (by kernel_rfl) rfl) A3 l3.length c3 _ _ _ _ _ _ (fun j => !charB l4.length l5.length l6.length l7.length l8.length (l3.getD j zCh)) W hc.2.1 (char_cells hc)
    (fun j hj W' hW' => nochar_any s d f A3 A4 A5 A6 A7 A8 A9 A10 l3.length l4.length l5.length l6.length l7.length l8.length l9.length l10.length c3 c4 c5 c6 c7 c8 c9 c10 (l3.getD j zCh) W' b ((hW'.block b (blk_lt hb)).trans hb))
  rw [show anyOf (fun j => !charB l4.length l5.length l6.length l7.length l8.length (l3.getD j zCh)) 0 l3.length = !charsB l3 l4.length l5.length l6.length l7.length l8.length from (Bool.not_not _).symm] at hy
  exact hy

theorem steps_any (A8 : Option Addr) (c8 : Nat) (l8 : List StR) (W : World) (h8 : kStep.C W A8 l8.length l8) :
    Calls Try.prog 28 #[.slice A8 l8.length c8, .func (.func 29) #[] #[]] W
      fun e w' => e = .returned (.bool (!stepsB l8)) ∧ Below W.heap.size W w' := by
  have hy := contains_Step 29 #[] (enters_of Try.func29 (by kernel_rfl) rfl) A8 l8.length c8 _ _ _ _ (fun j => !stepB (l8.getD j zSt)) W h8.2.1 (step_cells h8)
    (fun j hj W' hW' => nostep_any (l8.getD j zSt) W')
  rw [show anyOf (fun j => !stepB (l8.getD j zSt)) 0 l8.length = !stepsB l8 from (Bool.not_not _).symm] at hy
  exact hy

set_option maxHeartbeats 4000000 in
theorem check_any (s d f : Int) (A3 A4 A5 A6 A7 A8 A9 A10 : Option Addr) (c3 c4 c5 c6 c7 c8 c9 c10 : Nat) (l3 : List ChR) (l4 l5 l6 l7 : List Int) (l8 : List StR) (l9 l10 : List Int) (w : World) (h3 : kChar.C w A3 l3.length l3) (h4 : (Kd.int .i64).C w A4 l4.length l4) (h5 : (Kd.int .i64).C w A5 l5.length l5) (h6 : (Kd.int .i64).C w A6 l6.length l6) (h7 : (Kd.int .i64).C w A7 l7.length l7) (h8 : kStep.C w A8 l8.length l8) (h9 : (Kd.int .i64).C w A9 l9.length l9) (h10 : (Kd.int .i64).C w A10 l10.length l10) :
    Calls Try.prog 12 #[.agg #[.int .i64 s, .int .i64 d, .int .i64 f, .slice A3 l3.length c3, .slice A4 l4.length c4, .slice A5 l5.length c5, .slice A6 l6.length c6, .slice A7 l7.length c7, .slice A8 l8.length c8, .slice A9 l9.length c9, .slice A10 l10.length c10]] w fun e w' => e = .returned (.bool (checkB s d f l3 l4 l5 l6 l7 l8 l9 l10)) ∧ Below w.heap.size w w' := by
  have HH := aside (⟨h3, h4, h5, h6, h7, h8, h9, h10⟩ : kChar.C w A3 l3.length l3 ∧ (Kd.int .i64).C w A4 l4.length l4 ∧ (Kd.int .i64).C w A5 l5.length l5 ∧ (Kd.int .i64).C w A6 l6.length l6 ∧ (Kd.int .i64).C w A7 l7.length l7 ∧ kStep.C w A8 l8.length l8 ∧ (Kd.int .i64).C w A9 l9.length l9 ∧ (Kd.int .i64).C w A10 l10.length l10)
  have HCH : ∀ (W : World) (b : Nat), Below w.heap.size w W → W.heap[b]? = some (.cells #[.int .i64 s, .int .i64 d, .int .i64 f, .slice A3 l3.length c3, .slice A4 l4.length c4, .slice A5 l5.length c5, .slice A6 l6.length c6, .slice A7 l7.length c7, .slice A8 l8.length c8, .slice A9 l9.length c9, .slice A10 l10.length c10] 26 (0, 0)) → Calls Try.prog 25 #[.slice A3 l3.length c3, .func (.func 26) #[] #[.pointer (some ⟨b, 0, none⟩)]] W
      fun e w' => e = .returned (.bool (!charsB l3 l4.length l5.length l6.length l7.length l8.length)) ∧ Below W.heap.size W w' := fun W b HB hb => chars_any s d f A3 A4 A5 A6 A7 A8 A9 A10 c3 c4 c5 c6 c7 c8 c9 c10 l3 l4 l5 l6 l7 l8 l9 l10 w W b h3 h4 h5 h6 h7 h8 h9 h10 HB hb
  have HCHA := aside HCH
  have hm3 := h3.2.1
  have hm8 := h8.2.1
  clear h3 h4 h5 h6 h7 h8 h9 h10 HCH
  have HD := aside (show checkB s d f l3 l4 l5 l6 l7 l8 l9 l10 = (ofB s 4294967296 && decide (1048576 ≤ d) && decide (d < 2147483648) && ofB f 256 && decide (1 ≤ (l3.length : Int)) && decide ((l3.length : Int) ≤ 256 - f) && decide ((l8.length : Int) ≤ 256) &&
    tableB l4 1 256 && tableB l5 1 16 && tableB l6 1 16 && tableB l7 1 64 && tableB l9 0 256 && tableB l10 0 30 && charsB l3 l4.length l5.length l6.length l7.length l8.length && stepsB l8) from rfl)
  generalize checkB s d f l3 l4 l5 l6 l7 l8 l9 l10 = rr at HD ⊢
  have hfr : ofB f 256 = true → 0 ≤ f ∧ f < 256 := by simp [ofB]
  have HFR := aside hfr
  clear hfr
  go_enter Try.func12, Try.ntmps12
  go_wp2_with fail
  obtain ⟨W, hW⟩ : ∃ W, W = w.alloc (.cells #[.int .i64 s, .int .i64 d, .int .i64 f, .slice A3 l3.length c3, .slice A4 l4.length c4, .slice A5 l5.length c5, .slice A6 l6.length c6, .slice A7 l7.length c7, .slice A8 l8.length c8, .slice A9 l9.length c9, .slice A10 l10.length c10] 26) := ⟨_, rfl⟩
  have HBW := aside (show Below w.heap.size w W by rw [hW]; exact below_alloc (Below.refl _ _) _)
  have HK := aside (show W.heap[w.heap.size]? = some (.cells #[.int .i64 s, .int .i64 d, .int .i64 f, .slice A3 l3.length c3, .slice A4 l4.length c4, .slice A5 l5.length c5, .slice A6 l6.length c6, .slice A7 l7.length c7, .slice A8 l8.length c8, .slice A9 l9.length c9, .slice A10 l10.length c10] 26 (0, 0)) by rw [hW]; exact blk_new _ _)
  rw [← hW]
  clear hW
  obtain ⟨bx, hbx⟩ : ∃ bx, bx = w.heap.size := ⟨_, rfl⟩
  rw [← hbx] at HK ⊢
  clear hbx
  have f0 := (blk_cell HK.out 0).trans (show _ = some (.int .i64 s) from rfl)
  have f1 := (blk_cell HK.out 1).trans (show _ = some (.int .i64 d) from rfl)
  have f2 := (blk_cell HK.out 2).trans (show _ = some (.int .i64 f) from rfl)
  have f3 := (blk_cell HK.out 3).trans (show _ = some (.slice A3 l3.length c3) from rfl)
  have f4 := (blk_cell HK.out 4).trans (show _ = some (.slice A4 l4.length c4) from rfl)
  have f5 := (blk_cell HK.out 5).trans (show _ = some (.slice A5 l5.length c5) from rfl)
  have f6 := (blk_cell HK.out 6).trans (show _ = some (.slice A6 l6.length c6) from rfl)
  have f7 := (blk_cell HK.out 7).trans (show _ = some (.slice A7 l7.length c7) from rfl)
  have f8 := (blk_cell HK.out 8).trans (show _ = some (.slice A8 l8.length c8) from rfl)
  have f9 := (blk_cell HK.out 9).trans (show _ = some (.slice A9 l9.length c9) from rfl)
  have f10 := (blk_cell HK.out 10).trans (show _ = some (.slice A10 l10.length c10) from rfl)
  go_wp2_with (first
    | (go_at_call 23; refine (of_any _ _ _).mono ?_; rintro e w' ⟨rfl, rfl⟩; generalize hB : ofB _ _ = b; cases b; all_goals (try have hfb := HFR.out hB))
    | (go_at_call 24; refine (table_any _ _ _ _ _ (by omega) _ (by first | exact Kd.C_below HH.out.2.1 HBW.out | exact Kd.C_below HH.out.2.2.1 HBW.out | exact Kd.C_below HH.out.2.2.2.1 HBW.out | exact Kd.C_below HH.out.2.2.2.2.1 HBW.out | exact Kd.C_below HH.out.2.2.2.2.2.2.1 HBW.out | exact Kd.C_below HH.out.2.2.2.2.2.2.2 HBW.out)).mono ?_; rintro e w' ⟨rfl, hb'⟩; have HBn := aside (below_next HBW.out hb'); clear HBW; have HBW := HBn; clear HBn; have HKn := aside ((hb'.block _ (blk_lt HK.out)).trans HK.out); clear HK; have HK := HKn; clear HKn; replace f0 := pw_cell_below hb' f0; replace f1 := pw_cell_below hb' f1; replace f2 := pw_cell_below hb' f2; replace f3 := pw_cell_below hb' f3; replace f4 := pw_cell_below hb' f4; replace f5 := pw_cell_below hb' f5; replace f6 := pw_cell_below hb' f6; replace f7 := pw_cell_below hb' f7; replace f8 := pw_cell_below hb' f8; replace f9 := pw_cell_below hb' f9; replace f10 := pw_cell_below hb' f10; clear hb'; generalize hB : tableB _ _ _ = b; cases b)
    | (go_at_call 25; refine (HCHA.out _ _ HBW.out HK.out).mono ?_; rintro e w' ⟨rfl, hb'⟩; have HBn := aside (below_next HBW.out hb'); clear HBW; have HBW := HBn; clear HBn; have HKn := aside ((hb'.block _ (blk_lt HK.out)).trans HK.out); clear HK; have HK := HKn; clear HKn; replace f0 := pw_cell_below hb' f0; replace f1 := pw_cell_below hb' f1; replace f2 := pw_cell_below hb' f2; replace f3 := pw_cell_below hb' f3; replace f4 := pw_cell_below hb' f4; replace f5 := pw_cell_below hb' f5; replace f6 := pw_cell_below hb' f6; replace f7 := pw_cell_below hb' f7; replace f8 := pw_cell_below hb' f8; replace f9 := pw_cell_below hb' f9; replace f10 := pw_cell_below hb' f10; clear hb'; generalize hB : charsB _ _ _ _ _ _ = b; cases b)
    | (go_at_call 28; refine (steps_any _ _ _ _ (Kd.C_below HH.out.2.2.2.2.2.1 HBW.out)).mono ?_; rintro e w' ⟨rfl, hb'⟩; have HBn := aside (below_next HBW.out hb'); clear HBW; have HBW := HBn; clear HBn; have HKn := aside ((hb'.block _ (blk_lt HK.out)).trans HK.out); clear HK; have HK := HKn; clear HKn; replace f0 := pw_cell_below hb' f0; replace f1 := pw_cell_below hb' f1; replace f2 := pw_cell_below hb' f2; replace f3 := pw_cell_below hb' f3; replace f4 := pw_cell_below hb' f4; replace f5 := pw_cell_below hb' f5; replace f6 := pw_cell_below hb' f6; replace f7 := pw_cell_below hb' f7; replace f8 := pw_cell_below hb' f8; replace f9 := pw_cell_below hb' f9; replace f10 := pw_cell_below hb' f10; clear hb'; generalize hB : stepsB _ = b; cases b))
  all_goals
    go_ret
    exact ⟨by rw [HD.out]; first | (simp_all; done) | (simp_all; omega), HBW.out⟩
end Go.Proofs.Ytllllmhekdcbiaa
