/- compositorref04.Same: whether two lists of numbers are the same, walked. -/
import Derived.Test.YtcignolfkocjeaaBase
set_option linter.unusedVariables false
set_option linter.unusedSimpArgs false
namespace Go.Proofs.Ytcignolfkocjeaa
open Go.RowKit Go.Proofs.YtcignolfkocjeaaW.PrintWords

theorem same_ext {α : Type} {l m : List α} (z : α) (hn : l.length = m.length) (h : ∀ j, j < l.length → l.getD j z = m.getD j z) : l = m := by
  apply List.ext_getElem hn
  intro j h1 h2
  have := h j h1
  simpa [List.getD_eq_getElem?_getD, List.getElem?_eq_getElem h1, List.getElem?_eq_getElem h2] using this

/-- Whether two lists of numbers are the same. -/
def sameInts (l m : List Int) : Bool := decide (l = m)

set_option maxHeartbeats 1000000 in
theorem same_any (A B : Option Addr) (c d : Nat) (l m : List Int) (w : World) (hA : (Kd.int .i64).C w A l.length l) (hB : (Kd.int .i64).C w B m.length m) :
    Calls Try.prog 21 #[.slice A l.length c, .slice B m.length d] w fun e w' => e = .returned (.bool (sameInts l m)) ∧ Below w.heap.size w w' := by
  unfold sameInts
  have hl := hA.2.1
  have hm := hB.2.1
  by_cases hn : l.length = m.length
  · have HA := aside hA
    have HB := aside hB
    have hx := fun h => same_ext (l := l) (m := m) 0 hn h
    have HX := aside hx
    have HY := aside (show l = m → ∀ j, l.getD j 0 = m.getD j 0 from fun e j => by rw [e])
    have HQ := aside (show decide (l = m) = decide (l = m) from rfl)
    generalize hr : decide (l = m) = r at HQ ⊢
    have HR := aside hr
    clear hA hB hx hr HQ
    have hnz : (l.length : Int) = (m.length : Int) := by omega
    go_enter Try.func21, Try.ntmps21
    go_wp2
    go_loopg [5] l.length (fun gg s5 wr => ∃ kk : Nat, kk ≤ l.length ∧ l.length - kk ≤ gg ∧ s5 = .int .i64 kk ∧ Aside (Below w.heap.size w wr) ∧ Aside (∀ j, j < kk → l.getD j 0 = m.getD j 0))
    case atStart => exact ⟨0, by omega, by omega, rfl, Below.refl _ _, fun j hj => absurd hj (Nat.not_lt_zero j)⟩
    case round =>
      obtain ⟨kk, hkk, hg, rfl, HW, HE⟩ := hrel
      by_cases hlt : kk < l.length
      · have hltz : (kk : Int) < (l.length : Int) := by omega
        have hltm : (kk : Int) < (m.length : Int) := by omega
        obtain ⟨ad, hAd, hF⟩ := int_cells' (Kd.C_below HA.out HW.out) (by omega)
        obtain ⟨bd, hBd, hG⟩ := int_cells' (Kd.C_below HB.out HW.out) (by omega)
        subst hAd hBd
        have h1 := hF kk hlt
        have h2 := hG kk (by omega)
        have HV := aside (show ∀ j, j < kk → l.getD j 0 = m.getD j 0 from HE.out)
        by_cases he : l.getD kk 0 = m.getD kk 0
        · have HN := aside (show ∀ j, j < kk + 1 → l.getD j 0 = m.getD j 0 from fun j hj => if h : j < kk then HV.out j h else by rw [show j = kk by omega]; exact he)
          rw [← he] at h2
          generalize l.getD kk 0 = y at h1 h2
          clear he hF hG
          go_wp2_with fail
          go_quiet (fail)
          go_wp2
          go_roundg (l.length - (kk + 1))
          case measure => omega
          case rel => exact ⟨kk + 1, by omega, by omega, by go_num, pw_below_drewN HW.out _, HN⟩
        · have HN := aside (show r = false by rw [← HR.out]; exact decide_eq_false (fun e => he (HY.out e kk)))
          generalize l.getD kk 0 = y at h1 he
          generalize m.getD kk 0 = z at h2 he
          clear hF hG
          go_wp2_with fail
          go_quiet (fail)
          go_wp2
          go_ret
          exact ⟨by rw [HN.out]; rfl, pw_below_drewN HW.out _⟩
      · obtain rfl : kk = l.length := by omega
        have HN := aside (show r = true by rw [← HR.out]; exact decide_eq_true (HX.out HE.out))
        go_wp2_with fail
        go_ret
        exact ⟨by rw [HN.out]; rfl, HW.out⟩
  · have hd : decide (l = m) = false := decide_eq_false (fun e => hn (by rw [e]))
    rw [hd]
    have hnz : ¬ (l.length : Int) = (m.length : Int) := by omega
    go_enter Try.func21, Try.ntmps21
    go_wp2_with fail
    go_ret
    exact ⟨rfl, Below.refl _ _⟩
end Go.Proofs.Ytcignolfkocjeaa
