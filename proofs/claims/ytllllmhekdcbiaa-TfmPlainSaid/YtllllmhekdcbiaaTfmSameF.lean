/- compositorref07.Same, walked: whether two fonts are the same. -/
import Derived.Test.YtllllmhekdcbiaaTfmSame
set_option linter.unusedVariables false
set_option linter.unusedSimpArgs false
namespace Go.Proofs.Ytllllmhekdcbiaa
open Go.RowKit Go.Proofs.YtllllmhekdcbiaaW.PrintWords

instance : DecidableEq ChR := fun a b => decidable_of_iff (a.w = b.w ∧ a.h = b.h ∧ a.d = b.d ∧ a.i = b.i ∧ a.t = b.t ∧ a.r = b.r) ⟨fun h => by cases a; cases b; simp_all, fun h => by subst h; simp⟩
instance : DecidableEq StR := fun a b => decidable_of_iff (a.s = b.s ∧ a.n = b.n ∧ a.o = b.o ∧ a.r = b.r) ⟨fun h => by cases a; cases b; simp_all, fun h => by subst h; simp⟩
theorem char_ext {a b : ChR} (h : (((((a.w = b.w ∧ a.h = b.h) ∧ a.d = b.d) ∧ a.i = b.i) ∧ a.t = b.t) ∧ a.r = b.r)) : a = b := by cases a; cases b; simp_all
theorem step_ext {a b : StR} (h : (((a.s = b.s ∧ a.n = b.n) ∧ a.o = b.o) ∧ a.r = b.r)) : a = b := by cases a; cases b; simp_all

set_option maxHeartbeats 8000000 in
theorem samefont_any (s d f s' d' f' : Int) (A3 B3 A4 B4 A5 B5 A6 B6 A7 B7 A8 B8 A9 B9 A10 B10 : Option Addr) (c3 e3 c4 e4 c5 e5 c6 e6 c7 e7 c8 e8 c9 e9 c10 e10 : Nat) (l3 m3 : List ChR) (l4 m4 : List Int) (l5 m5 : List Int) (l6 m6 : List Int) (l7 m7 : List Int) (l8 m8 : List StR) (l9 m9 : List Int) (l10 m10 : List Int) (w : World) (h3 : kChar.C w A3 l3.length l3) (k3 : kChar.C w B3 m3.length m3) (h4 : (Kd.int .i64).C w A4 l4.length l4) (k4 : (Kd.int .i64).C w B4 m4.length m4) (h5 : (Kd.int .i64).C w A5 l5.length l5) (k5 : (Kd.int .i64).C w B5 m5.length m5) (h6 : (Kd.int .i64).C w A6 l6.length l6) (k6 : (Kd.int .i64).C w B6 m6.length m6) (h7 : (Kd.int .i64).C w A7 l7.length l7) (k7 : (Kd.int .i64).C w B7 m7.length m7) (h8 : kStep.C w A8 l8.length l8) (k8 : kStep.C w B8 m8.length m8) (h9 : (Kd.int .i64).C w A9 l9.length l9) (k9 : (Kd.int .i64).C w B9 m9.length m9) (h10 : (Kd.int .i64).C w A10 l10.length l10) (k10 : (Kd.int .i64).C w B10 m10.length m10) :
    Calls Try.prog 11 #[.agg #[.int .i64 s, .int .i64 d, .int .i64 f, .slice A3 l3.length c3, .slice A4 l4.length c4, .slice A5 l5.length c5, .slice A6 l6.length c6, .slice A7 l7.length c7, .slice A8 l8.length c8, .slice A9 l9.length c9, .slice A10 l10.length c10], .agg #[.int .i64 s', .int .i64 d', .int .i64 f', .slice B3 m3.length e3, .slice B4 m4.length e4, .slice B5 m5.length e5, .slice B6 m6.length e6, .slice B7 m7.length e7, .slice B8 m8.length e8, .slice B9 m9.length e9, .slice B10 m10.length e10]] w fun e w' => e = .returned (.bool (decide (s = s') && decide (d = d') && decide (f = f') && decide (l3 = m3) && decide (l8 = m8) && decide (l4 = m4) && decide (l5 = m5) && decide (l6 = m6) && decide (l7 = m7) && decide (l9 = m9) && decide (l10 = m10))) ∧ Below w.heap.size w w' := by
  have HH := aside (And.intro h3 (And.intro k3 (And.intro h8 (And.intro k8 (And.intro h4 (And.intro k4 (And.intro h5 (And.intro k5 (And.intro h6 (And.intro k6 (And.intro h7 (And.intro k7 (And.intro h9 (And.intro k9 (And.intro h10 k10)))))))))))))))
  have hm3 := h3.2.1
  have hm8 := h8.2.1
  have km3 := k3.2.1
  have km8 := k8.2.1
  clear h3 k3 h4 k4 h5 k5 h6 k6 h7 k7 h8 k8 h9 k9 h10 k10
  obtain ⟨r, hr⟩ : ∃ r : Bool, r = (decide (s = s') && decide (d = d') && decide (f = f') && decide (l3 = m3) && decide (l8 = m8) && decide (l4 = m4) && decide (l5 = m5) && decide (l6 = m6) && decide (l7 = m7) && decide (l9 = m9) && decide (l10 = m10)) := ⟨_, rfl⟩
  rw [← hr]
  have HR := aside hr
  clear hr
  go_enter Try.func11, Try.ntmps11
  have hno : ∀ c : Bool, c = false → True := fun _ _ => trivial
  by_cases hs : s = s'
  rotate_left
  · have HN := aside (show r = false by rw [HR.out, decide_eq_false hs]; simp)
    go_wp2_with fail
    go_ret
    exact ⟨by rw [HN.out]; rfl, (below_alloc (Below.refl _ _) _).alloc (by simp) _⟩
  by_cases hd : d = d'
  rotate_left
  · have HN := aside (show r = false by rw [HR.out, decide_eq_false hd]; simp)
    go_wp2_with fail
    go_ret
    exact ⟨by rw [HN.out]; rfl, (below_alloc (Below.refl _ _) _).alloc (by simp) _⟩
  by_cases hf : f = f'
  rotate_left
  · have HN := aside (show r = false by rw [HR.out, decide_eq_false hf]; simp)
    go_wp2_with fail
    go_ret
    exact ⟨by rw [HN.out]; rfl, (below_alloc (Below.refl _ _) _).alloc (by simp) _⟩
  by_cases hn3 : l3.length = m3.length
  rotate_left
  · have HN := aside (show r = false by rw [HR.out, decide_eq_false (show ¬ l3 = m3 from fun e => hn3 (by rw [e]))]; simp)
    have hnz : ¬ (l3.length : Int) = (m3.length : Int) := by omega
    go_wp2_with fail
    go_ret
    exact ⟨by rw [HN.out]; rfl, (below_alloc (Below.refl _ _) _).alloc (by simp) _⟩
  by_cases hn8 : l8.length = m8.length
  rotate_left
  · have HN := aside (show r = false by rw [HR.out, decide_eq_false (show ¬ l8 = m8 from fun e => hn8 (by rw [e]))]; simp)
    have hnz : ¬ (l8.length : Int) = (m8.length : Int) := by omega
    have hnz3 : (l3.length : Int) = (m3.length : Int) := by omega
    go_wp2_with fail
    go_ret
    exact ⟨by rw [HN.out]; rfl, (below_alloc (Below.refl _ _) _).alloc (by simp) _⟩
  subst hs hd hf
  have hnz3 : (l3.length : Int) = (m3.length : Int) := by omega
  have hnz8 : (l8.length : Int) = (m8.length : Int) := by omega
  have HN3 := aside hn3
  have HN8 := aside hn8
  clear hn3 hn8
  go_wp2_with fail
  obtain ⟨W, hW⟩ : ∃ W, W = (w.alloc (.cells #[.int .i64 s, .int .i64 d, .int .i64 f, .slice A3 l3.length c3, .slice A4 l4.length c4, .slice A5 l5.length c5, .slice A6 l6.length c6, .slice A7 l7.length c7, .slice A8 l8.length c8, .slice A9 l9.length c9, .slice A10 l10.length c10] 26)).alloc (.cells #[.int .i64 s, .int .i64 d, .int .i64 f, .slice B3 m3.length e3, .slice B4 m4.length e4, .slice B5 m5.length e5, .slice B6 m6.length e6, .slice B7 m7.length e7, .slice B8 m8.length e8, .slice B9 m9.length e9, .slice B10 m10.length e10] 26) := ⟨_, rfl⟩
  have HBW := aside (show Below w.heap.size w W by rw [hW]; exact (below_alloc (Below.refl _ _) _).alloc (by simp) _)
  have HK1 := aside (show W.heap[w.heap.size]? = some (.cells #[.int .i64 s, .int .i64 d, .int .i64 f, .slice A3 l3.length c3, .slice A4 l4.length c4, .slice A5 l5.length c5, .slice A6 l6.length c6, .slice A7 l7.length c7, .slice A8 l8.length c8, .slice A9 l9.length c9, .slice A10 l10.length c10] 26 (0, 0)) by rw [hW]; exact blk_alloc (blk_new _ _) _)
  have HK2 := aside (show W.heap[w.heap.size + 1]? = some (.cells #[.int .i64 s, .int .i64 d, .int .i64 f, .slice B3 m3.length e3, .slice B4 m4.length e4, .slice B5 m5.length e5, .slice B6 m6.length e6, .slice B7 m7.length e7, .slice B8 m8.length e8, .slice B9 m9.length e9, .slice B10 m10.length e10] 26 (0, 0)) by
    rw [hW]
    have h := blk_new (w.alloc (.cells #[.int .i64 s, .int .i64 d, .int .i64 f, .slice A3 l3.length c3, .slice A4 l4.length c4, .slice A5 l5.length c5, .slice A6 l6.length c6, .slice A7 l7.length c7, .slice A8 l8.length c8, .slice A9 l9.length c9, .slice A10 l10.length c10] 26)) (.cells #[.int .i64 s, .int .i64 d, .int .i64 f, .slice B3 m3.length e3, .slice B4 m4.length e4, .slice B5 m5.length e5, .slice B6 m6.length e6, .slice B7 m7.length e7, .slice B8 m8.length e8, .slice B9 m9.length e9, .slice B10 m10.length e10] 26)
    simpa using h)
  rw [← hW]
  clear hW
  obtain ⟨bx, hbx⟩ : ∃ bx, bx = w.heap.size := ⟨_, rfl⟩
  rw [← hbx] at HK1 HK2 ⊢
  obtain ⟨bz, hbz⟩ : ∃ bz, bz = bx + 1 := ⟨_, rfl⟩
  rw [← hbz] at HK2 ⊢
  clear hbx hbz
  go_loopg [5] l3.length (fun gg s5 wr => ∃ kk : Nat, kk ≤ l3.length ∧ l3.length - kk ≤ gg ∧ s5 = .int .i64 kk ∧ Aside (Below W.heap.size W wr) ∧ Aside (∀ j, j < kk → l3.getD j zCh = m3.getD j zCh))
  case atStart => exact ⟨0, by omega, by omega, rfl, Below.refl _ _, fun j hj => absurd hj (Nat.not_lt_zero j)⟩
  case round =>
    obtain ⟨kk, hkk, hg, rfl, HW, HE⟩ := hrel
    have f3 := (blk_cell (blk_below HK1.out HW.out) 3).trans (show _ = some (.slice A3 l3.length c3) from rfl)
    have g3 := (blk_cell (blk_below HK2.out HW.out) 3).trans (show _ = some (.slice B3 m3.length e3) from rfl)
    by_cases hlt : kk < l3.length
    · have hltz : (kk : Int) < (l3.length : Int) := by omega
      have hltm : (kk : Int) < (m3.length : Int) := by omega
      obtain ⟨ad, hAd, hF⟩ := char_cells (Kd.C_below HH.out.1 (below_next HBW.out HW.out)) (by omega)
      obtain ⟨bd, hBd, hG⟩ := char_cells (Kd.C_below HH.out.2.1 (below_next HBW.out HW.out)) (by omega)
      subst hAd hBd
      obtain ⟨p0, p1, p2, p3, p4, p5⟩ := hF kk hlt
      obtain ⟨q0, q1, q2, q3, q4, q5⟩ := hG kk (by omega)
      clear hF hG
      have p0 : wr.cell? (ad.add (kk * 6)) = some (.int .i64 (l3.getD kk zCh).w) := p0
      rw [add_field _ _ 1 (by omega)] at p1
      rw [add_field _ _ 2 (by omega)] at p2
      rw [add_field _ _ 3 (by omega)] at p3
      rw [add_field _ _ 4 (by omega)] at p4
      rw [add_field _ _ 5 (by omega)] at p5
      have q0 : wr.cell? (bd.add (kk * 6)) = some (.int .i64 (m3.getD kk zCh).w) := q0
      rw [add_field _ _ 1 (by omega)] at q1
      rw [add_field _ _ 2 (by omega)] at q2
      rw [add_field _ _ 3 (by omega)] at q3
      rw [add_field _ _ 4 (by omega)] at q4
      rw [add_field _ _ 5 (by omega)] at q5
      have HV := aside (show ∀ j, j < kk → l3.getD j zCh = m3.getD j zCh from HE.out)
      by_cases he : l3.getD kk zCh = m3.getD kk zCh
      · have HN := aside (show ∀ j, j < kk + 1 → l3.getD j zCh = m3.getD j zCh from fun j hj => if h : j < kk then HV.out j h else by rw [show j = kk by omega]; exact he)
        rw [← he] at q0 q1 q2 q3 q4 q5
        generalize l3.getD kk zCh = y at p0 p1 p2 p3 p4 p5 q0 q1 q2 q3 q4 q5
        clear he
        go_wp2_with fail
        go_quiet (fail)
        go_wp2
        go_roundg (l3.length - (kk + 1))
        case measure => omega
        case rel => exact ⟨kk + 1, by omega, by omega, by go_num, pw_below_drewN HW.out _, HN⟩
      · have HN := aside (show r = false by rw [HR.out]; have e1 : decide (l3 = m3) = false := decide_eq_false (fun e => he (by rw [e])); rw [e1]; simp)
        have he2 := fun h => he (char_ext h)
        generalize l3.getD kk zCh = y at p0 p1 p2 p3 p4 p5 he2
        generalize m3.getD kk zCh = z at q0 q1 q2 q3 q4 q5 he2
        clear he
        obtain ⟨y0, y1, y2, y3, y4, y5⟩ := y
        obtain ⟨z0, z1, z2, z3, z4, z5⟩ := z
        dsimp only at p0 p1 p2 p3 p4 p5 q0 q1 q2 q3 q4 q5 he2
        by_cases e0 : y0 = z0
        rotate_left
        · clear he2
          go_wp2_with fail
          go_quiet (fail)
          go_wp2
          go_ret
          exact ⟨by rw [HN.out]; rfl, below_next HBW.out (pw_below_drewN HW.out _)⟩
        subst e0
        by_cases e1 : y1 = z1
        rotate_left
        · clear he2
          go_wp2_with fail
          go_quiet (fail)
          go_wp2
          go_ret
          exact ⟨by rw [HN.out]; rfl, below_next HBW.out (pw_below_drewN HW.out _)⟩
        subst e1
        by_cases e2 : y2 = z2
        rotate_left
        · clear he2
          go_wp2_with fail
          go_quiet (fail)
          go_wp2
          go_ret
          exact ⟨by rw [HN.out]; rfl, below_next HBW.out (pw_below_drewN HW.out _)⟩
        subst e2
        by_cases e3 : y3 = z3
        rotate_left
        · clear he2
          go_wp2_with fail
          go_quiet (fail)
          go_wp2
          go_ret
          exact ⟨by rw [HN.out]; rfl, below_next HBW.out (pw_below_drewN HW.out _)⟩
        subst e3
        by_cases e4 : y4 = z4
        rotate_left
        · clear he2
          go_wp2_with fail
          go_quiet (fail)
          go_wp2
          go_ret
          exact ⟨by rw [HN.out]; rfl, below_next HBW.out (pw_below_drewN HW.out _)⟩
        subst e4
        by_cases e5 : y5 = z5
        rotate_left
        · clear he2
          go_wp2_with fail
          go_quiet (fail)
          go_wp2
          go_ret
          exact ⟨by rw [HN.out]; rfl, below_next HBW.out (pw_below_drewN HW.out _)⟩
        subst e5
        exact absurd (by simp) he2
    · obtain rfl : kk = l3.length := by omega
      have he3 : l3 = m3 := same_ext zCh HN3.out HE.out
      clear HE hlt hg hkk
      have hltz : ¬ (l3.length : Int) < (l3.length : Int) := by omega
      go_wp2_with fail
      go_loopg [6] l8.length (fun gg s5 wr => ∃ kk : Nat, kk ≤ l8.length ∧ l8.length - kk ≤ gg ∧ s5 = .int .i64 kk ∧ Aside (Below W.heap.size W wr) ∧ Aside (∀ j, j < kk → l8.getD j zSt = m8.getD j zSt))
      case atStart => exact ⟨0, by omega, by omega, rfl, HW.out, fun j hj => absurd hj (Nat.not_lt_zero j)⟩
      case round =>
        obtain ⟨kk, hkk, hg, rfl, HW, HE⟩ := hrel
        have f8 := (blk_cell (blk_below HK1.out HW.out) 8).trans (show _ = some (.slice A8 l8.length c8) from rfl)
        have g8 := (blk_cell (blk_below HK2.out HW.out) 8).trans (show _ = some (.slice B8 m8.length e8) from rfl)
        by_cases hlt : kk < l8.length
        · have hltz : (kk : Int) < (l8.length : Int) := by omega
          have hltm : (kk : Int) < (m8.length : Int) := by omega
          obtain ⟨ad, hAd, hF⟩ := step_cells (Kd.C_below HH.out.2.2.1 (below_next HBW.out HW.out)) (by omega)
          obtain ⟨bd, hBd, hG⟩ := step_cells (Kd.C_below HH.out.2.2.2.1 (below_next HBW.out HW.out)) (by omega)
          subst hAd hBd
          obtain ⟨p0, p1, p2, p3⟩ := hF kk hlt
          obtain ⟨q0, q1, q2, q3⟩ := hG kk (by omega)
          clear hF hG
          have p0 : wr.cell? (ad.add (kk * 4)) = some (.int .i64 (l8.getD kk zSt).s) := p0
          rw [add_field _ _ 1 (by omega)] at p1
          rw [add_field _ _ 2 (by omega)] at p2
          rw [add_field _ _ 3 (by omega)] at p3
          have q0 : wr.cell? (bd.add (kk * 4)) = some (.int .i64 (m8.getD kk zSt).s) := q0
          rw [add_field _ _ 1 (by omega)] at q1
          rw [add_field _ _ 2 (by omega)] at q2
          rw [add_field _ _ 3 (by omega)] at q3
          have HV := aside (show ∀ j, j < kk → l8.getD j zSt = m8.getD j zSt from HE.out)
          by_cases he : l8.getD kk zSt = m8.getD kk zSt
          · have HN := aside (show ∀ j, j < kk + 1 → l8.getD j zSt = m8.getD j zSt from fun j hj => if h : j < kk then HV.out j h else by rw [show j = kk by omega]; exact he)
            rw [← he] at q0 q1 q2 q3
            generalize l8.getD kk zSt = y at p0 p1 p2 p3 q0 q1 q2 q3
            clear he
            go_wp2_with fail
            go_quiet (fail)
            go_wp2
            go_roundg (l8.length - (kk + 1))
            case measure => omega
            case rel => exact ⟨kk + 1, by omega, by omega, by go_num, pw_below_drewN HW.out _, HN⟩
          · have HN := aside (show r = false by rw [HR.out]; have e1 : decide (l8 = m8) = false := decide_eq_false (fun e => he (by rw [e])); rw [e1]; simp)
            have he2 := fun h => he (step_ext h)
            generalize l8.getD kk zSt = y at p0 p1 p2 p3 he2
            generalize m8.getD kk zSt = z at q0 q1 q2 q3 he2
            clear he
            obtain ⟨y0, y1, y2, y3⟩ := y
            obtain ⟨z0, z1, z2, z3⟩ := z
            dsimp only at p0 p1 p2 p3 q0 q1 q2 q3 he2
            by_cases e0 : y0 = z0
            rotate_left
            · clear he2
              go_wp2_with fail
              go_quiet (fail)
              go_wp2
              go_ret
              exact ⟨by rw [HN.out]; rfl, below_next HBW.out (pw_below_drewN HW.out _)⟩
            subst e0
            by_cases e1 : y1 = z1
            rotate_left
            · clear he2
              go_wp2_with fail
              go_quiet (fail)
              go_wp2
              go_ret
              exact ⟨by rw [HN.out]; rfl, below_next HBW.out (pw_below_drewN HW.out _)⟩
            subst e1
            by_cases e2 : y2 = z2
            rotate_left
            · clear he2
              go_wp2_with fail
              go_quiet (fail)
              go_wp2
              go_ret
              exact ⟨by rw [HN.out]; rfl, below_next HBW.out (pw_below_drewN HW.out _)⟩
            subst e2
            by_cases e3 : y3 = z3
            rotate_left
            · clear he2
              go_wp2_with fail
              go_quiet (fail)
              go_wp2
              go_ret
              exact ⟨by rw [HN.out]; rfl, below_next HBW.out (pw_below_drewN HW.out _)⟩
            subst e3
            exact absurd (by simp) he2
        · obtain rfl : kk = l8.length := by omega
          have he8 : l8 = m8 := same_ext zSt HN8.out HE.out
          clear HE hlt hg hkk
          have hltz : ¬ (l8.length : Int) < (l8.length : Int) := by omega
          have f4 := (blk_cell (blk_below HK1.out HW.out) 4).trans (show _ = some (.slice A4 l4.length c4) from rfl)
          have g4 := (blk_cell (blk_below HK2.out HW.out) 4).trans (show _ = some (.slice B4 m4.length e4) from rfl)
          have f5 := (blk_cell (blk_below HK1.out HW.out) 5).trans (show _ = some (.slice A5 l5.length c5) from rfl)
          have g5 := (blk_cell (blk_below HK2.out HW.out) 5).trans (show _ = some (.slice B5 m5.length e5) from rfl)
          have f6 := (blk_cell (blk_below HK1.out HW.out) 6).trans (show _ = some (.slice A6 l6.length c6) from rfl)
          have g6 := (blk_cell (blk_below HK2.out HW.out) 6).trans (show _ = some (.slice B6 m6.length e6) from rfl)
          have f7 := (blk_cell (blk_below HK1.out HW.out) 7).trans (show _ = some (.slice A7 l7.length c7) from rfl)
          have g7 := (blk_cell (blk_below HK2.out HW.out) 7).trans (show _ = some (.slice B7 m7.length e7) from rfl)
          have f9 := (blk_cell (blk_below HK1.out HW.out) 9).trans (show _ = some (.slice A9 l9.length c9) from rfl)
          have g9 := (blk_cell (blk_below HK2.out HW.out) 9).trans (show _ = some (.slice B9 m9.length e9) from rfl)
          have f10 := (blk_cell (blk_below HK1.out HW.out) 10).trans (show _ = some (.slice A10 l10.length c10) from rfl)
          have g10 := (blk_cell (blk_below HK2.out HW.out) 10).trans (show _ = some (.slice B10 m10.length e10) from rfl)
          have HBX := aside (below_next HBW.out HW.out)
          go_wp2_with (go_at_call 22; refine (same_any _ _ _ _ _ _ _ (by first | exact Kd.C_below HH.out.2.2.2.2.1 HBX.out | exact Kd.C_below HH.out.2.2.2.2.2.2.1 HBX.out | exact Kd.C_below HH.out.2.2.2.2.2.2.2.2.1 HBX.out | exact Kd.C_below HH.out.2.2.2.2.2.2.2.2.2.2.1 HBX.out | exact Kd.C_below HH.out.2.2.2.2.2.2.2.2.2.2.2.2.1 HBX.out | exact Kd.C_below HH.out.2.2.2.2.2.2.2.2.2.2.2.2.2.2.1 HBX.out) (by first | exact Kd.C_below HH.out.2.2.2.2.2.1 HBX.out | exact Kd.C_below HH.out.2.2.2.2.2.2.2.1 HBX.out | exact Kd.C_below HH.out.2.2.2.2.2.2.2.2.2.1 HBX.out | exact Kd.C_below HH.out.2.2.2.2.2.2.2.2.2.2.2.1 HBX.out | exact Kd.C_below HH.out.2.2.2.2.2.2.2.2.2.2.2.2.2.1 HBX.out | exact Kd.C_below HH.out.2.2.2.2.2.2.2.2.2.2.2.2.2.2.2 HBX.out)).mono ?_; rintro e w' ⟨rfl, hb'⟩; have HBn := aside (below_next HBX.out hb'); clear HBX; have HBX := HBn; clear HBn; replace f4 := pw_cell_below hb' f4; replace g4 := pw_cell_below hb' g4; replace f5 := pw_cell_below hb' f5; replace g5 := pw_cell_below hb' g5; replace f6 := pw_cell_below hb' f6; replace g6 := pw_cell_below hb' g6; replace f7 := pw_cell_below hb' f7; replace g7 := pw_cell_below hb' g7; replace f9 := pw_cell_below hb' f9; replace g9 := pw_cell_below hb' g9; replace f10 := pw_cell_below hb' f10; replace g10 := pw_cell_below hb' g10; clear hb'; generalize hB : sameInts _ _ = b; cases b)
          all_goals
            go_ret
            exact ⟨by rw [HR.out]; simp_all [sameInts], HBX.out⟩
end Go.Proofs.Ytllllmhekdcbiaa
