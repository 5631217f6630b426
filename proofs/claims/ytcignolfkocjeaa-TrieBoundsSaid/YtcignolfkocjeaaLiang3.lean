/- liang's Check, walked: whether patterns may be. -/
import Derived.Test.YtcignolfkocjeaaLiang2
set_option linter.unusedVariables false
set_option linter.unusedSimpArgs false
namespace Go.Proofs.Ytcignolfkocjeaa
open Go.RowKit Go.Proofs.YtcignolfkocjeaaW.PrintWords

def patsB (l : List PatR) : Bool := !anyOf (fun j => !patB (l.getD j zPat)) 0 l.length
def excsB (l : List ExcR) : Bool := !anyOf (fun j => !excB (l.getD j zExc)) 0 l.length
/-- Whether patterns may be. -/
def checkP (l : List PatR) (m : List ExcR) : Bool := decide ((l.length : Int) ≤ 300) && decide ((m.length : Int) ≤ 300 - (l.length : Int)) && patsB l && excsB m
def PatsOk (l : List PatR) : Prop := ∀ j, (l.getD j zPat).f0.size ≤ 9223372036854775807
def ExcsOk (l : List ExcR) : Prop := ∀ j, (l.getD j zExc).f0.size ≤ 9223372036854775807

theorem nopats_any (A : Option Addr) (c : Nat) (l : List PatR) (w : World) (hC : kPat.C w A l.length l) (hO : PatsOk l) :
    Calls Try.prog 46 #[.slice A l.length c, .func (.func 42) #[] #[]] w fun e w' => e = .returned (.bool (!patsB l)) ∧ Below w.heap.size w w' := by
  obtain ⟨el, hK, hc⟩ := pick_cells zPat hC
  have hx := contains_Pat 42 #[] (enters_of Try.func42 (by kernel_rfl) rfl) A l.length c (fun j => (el j).getD 0 (.bool false)) (fun j => (el j).getD 1 (.bool false)) (fun j => !patB (l.getD j zPat)) w hC.2.1
    (fun hn => by
      obtain ⟨ad, e, hc⟩ := hc hn
      refine ⟨ad, e, fun j hj => ?_⟩
      obtain ⟨A1, c1, h1, h2, h3⟩ := Pr.k40_open (hK j hj)
      have h := hc j hj
      rw [h1] at h ⊢
      exact ⟨h 0 _ rfl, h 1 _ rfl⟩)
    (fun j hj W hW => by
      obtain ⟨A1, c1, h1, h2, h3⟩ := Pr.k40_open (hK j hj)
      simp only [h1]
      exact nopattern_any (l.getD j zPat) A1 c1 W (hO j) (Kd.C_below h3 hW))
  rw [show anyOf (fun j => !patB (l.getD j zPat)) 0 l.length = !patsB l from (Bool.not_not _).symm] at hx
  exact hx
theorem noexcs_any (A : Option Addr) (c : Nat) (l : List ExcR) (w : World) (hC : kExc.C w A l.length l) (hO : ExcsOk l) :
    Calls Try.prog 47 #[.slice A l.length c, .func (.func 44) #[] #[]] w fun e w' => e = .returned (.bool (!excsB l)) ∧ Below w.heap.size w w' := by
  obtain ⟨el, hK, hc⟩ := pick_cells zExc hC
  have hx := contains_Exc 44 #[] (enters_of Try.func44 (by kernel_rfl) rfl) A l.length c (fun j => (el j).getD 0 (.bool false)) (fun j => (el j).getD 1 (.bool false)) (fun j => !excB (l.getD j zExc)) w hC.2.1
    (fun hn => by
      obtain ⟨ad, e, hc⟩ := hc hn
      refine ⟨ad, e, fun j hj => ?_⟩
      obtain ⟨A1, c1, h1, h2, h3⟩ := Pr.k59_open (hK j hj)
      have h := hc j hj
      rw [h1] at h ⊢
      exact ⟨h 0 _ rfl, h 1 _ rfl⟩)
    (fun j hj W hW => by
      obtain ⟨A1, c1, h1, h2, h3⟩ := Pr.k59_open (hK j hj)
      simp only [h1]
      exact noexception_any (l.getD j zExc) A1 c1 W (hO j) (Kd.C_below h3 hW))
  rw [show anyOf (fun j => !excB (l.getD j zExc)) 0 l.length = !excsB l from (Bool.not_not _).symm] at hx
  exact hx

/-- A value is patterns. -/
def PatsOf (w : World) (v : Value) (l : List PatR) (m : List ExcR) : Prop :=
  ∃ A c B d, v = .agg #[.slice A l.length c, .slice B m.length d] ∧ l.length ≤ c ∧ m.length ≤ d ∧ kPat.C w A l.length l ∧ kExc.C w B m.length m
theorem PatsOf.below {w w' : World} {v : Value} {l : List PatR} {m : List ExcR} (h : PatsOf w v l m) (hb : Below w.heap.size w w') : PatsOf w' v l m := by
  obtain ⟨A, c, B, d, h1, h2, h3, h4, h5⟩ := h
  exact ⟨A, c, B, d, h1, h2, h3, Kd.C_below h4 hb, Kd.C_below h5 hb⟩

set_option maxHeartbeats 2000000 in
theorem lcheck_any (v : Value) (l : List PatR) (m : List ExcR) (w : World) (h : PatsOf w v l m) (hO : PatsOk l) (hE : ExcsOk m) :
    Calls Try.prog 30 #[v] w fun e w' => e = .returned (.bool (checkP l m)) ∧ Below w.heap.size w w' := by
  obtain ⟨A, c, B, d, rfl, h2, h3, h4, h5⟩ := h
  have hm4 := h4.2.1
  have hm5 := h5.2.1
  have HP := aside (fun W (hW : Below w.heap.size w W) => nopats_any A c l W (Kd.C_below h4 hW) hO)
  have HE := aside (fun W (hW : Below w.heap.size w W) => noexcs_any B d m W (Kd.C_below h5 hW) hE)
  have HD := aside (show checkP l m = (decide ((l.length : Int) ≤ 300) && decide ((m.length : Int) ≤ 300 - (l.length : Int)) && patsB l && excsB m) from rfl)
  generalize checkP l m = r at HD ⊢
  generalize patsB l = q at HP HD
  generalize excsB m = p at HE HD
  clear h4 h5 hO hE
  have hbb : Below w.heap.size w (w.alloc (.cells #[.slice A l.length c, .slice B m.length d] 25)) := below_alloc (Below.refl _ _) _
  have hk : (w.alloc (.cells #[.slice A l.length c, .slice B m.length d] 25)).heap[w.heap.size]? = some (.cells #[.slice A l.length c, .slice B m.length d] 25 (0, 0)) := blk_new _ _
  have hk1 := (blk_cell hk 1).trans (show _ = some (.slice B m.length d) from rfl)
  have HB := aside hbb
  have HK := aside hk1
  clear hbb hk hk1
  by_cases hl : (l.length : Int) ≤ 300
  · by_cases hl2 : (m.length : Int) ≤ 300 - (l.length : Int)
    · have HL := aside hl
      have HL2 := aside hl2
      cases q with
      | false =>
        go_enter Try.func30, Try.ntmps30
        go_wp2_with (first
          | (go_at_call 46; refine (HP.out _ HB.out).mono ?_; rintro e w2 ⟨rfl, hb⟩))
        go_ret
        exact ⟨by rw [HD.out]; simp, below_next HB.out hb⟩
      | true =>
        go_enter Try.func30, Try.ntmps30
        go_wp2_with (first
          | (go_at_call 46; refine (HP.out _ HB.out).mono ?_; rintro e w2 ⟨rfl, hb⟩; have y1b := pw_cell_below hb HK.out; have HB2 := aside (below_next HB.out hb); clear hb)
          | (go_at_call 47; refine (HE.out _ HB2.out).mono ?_; rintro e w3 ⟨rfl, hb3⟩))
        go_ret
        exact ⟨by rw [HD.out, decide_eq_true HL.out, decide_eq_true HL2.out]; cases p <;> rfl, below_next HB2.out hb3⟩
    · have HL2 := aside (decide_eq_false hl2)
      go_enter Try.func30, Try.ntmps30
      go_wp2_with fail
      go_ret
      exact ⟨by rw [HD.out, HL2.out]; simp, HB.out⟩
  · have HL := aside (decide_eq_false hl)
    go_enter Try.func30, Try.ntmps30
    go_wp2_with fail
    go_ret
    exact ⟨by rw [HD.out, HL.out]; rfl, HB.out⟩
end Go.Proofs.Ytcignolfkocjeaa
