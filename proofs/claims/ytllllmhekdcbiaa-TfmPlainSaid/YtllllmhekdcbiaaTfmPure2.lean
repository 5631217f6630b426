/- The plain laws of fonts, more: a font's bytes are bytes; a font without its steps. -/
import Derived.Test.YtllllmhekdcbiaaTfmPure
set_option linter.unusedVariables false
set_option linter.unusedSimpArgs false
namespace Go.Proofs.Ytllllmhekdcbiaa

theorem bytes_nil : Bytes [] := fun j => by simp
theorem few_le {F : FontR} (h : fewF F = true) : F.l3.length ≤ 300 ∧ F.l4.length ≤ 300 ∧ F.l5.length ≤ 300 ∧ F.l6.length ≤ 300 ∧ F.l7.length ≤ 300 ∧ F.l8.length ≤ 300 ∧ F.l9.length ≤ 300 ∧ F.l10.length ≤ 300 := by
  simp only [fewF, fewB, Bool.and_eq_true, decide_eq_true_eq] at h
  omega
def AllB (l : List Int) : Prop := ∀ x, x ∈ l → 0 ≤ x ∧ x < 256
theorem AllB.app {l m : List Int} (h : AllB l) (k : AllB m) : AllB (l ++ m) := fun x hx => by
  rcases List.mem_append.1 hx with hx | hx
  · exact h x hx
  · exact k x hx
theorem be_all (n : Int) : ∀ k, AllB (be n k)
  | 0 => fun x hx => by simp [be] at hx
  | k + 1 => fun x hx => by
    simp only [be, List.mem_cons] at hx
    rcases hx with rfl | hx
    · omega
    · exact be_all n k x hx
theorem twos_all : ∀ l, AllB (twos l)
  | [] => fun x hx => by simp [twos] at hx
  | n :: l => (be_all n 2).app (twos_all l)
theorem fix_all : ∀ l, AllB (fixBytes l)
  | [] => fun x hx => by simp [fixBytes] at hx
  | n :: l => (be_all _ 4).app (fix_all l)
theorem chars_all : ∀ {l : List ChR}, (∀ c, c ∈ l → 0 ≤ c.w ∧ c.w < 256 ∧ 0 ≤ c.h ∧ c.h < 16 ∧ 0 ≤ c.d ∧ c.d < 16 ∧ 0 ≤ c.i ∧ c.i < 64 ∧ 0 ≤ c.t ∧ c.t < 2 ∧ 0 ≤ c.r ∧ c.r < 256) → AllB (charsBytes l)
  | [], _ => fun x hx => by simp [charsBytes] at hx
  | c :: l, h => AllB.app (fun x hx => by
      have := h c (by simp)
      simp only [charBytes, List.mem_cons, List.not_mem_nil, or_false] at hx
      rcases hx with rfl | rfl | rfl | rfl <;> omega) (chars_all fun y hy => h y (by simp [hy]))
theorem steps_all : ∀ {l : List StR}, (∀ c, c ∈ l → 0 ≤ c.s ∧ c.s < 256 ∧ 0 ≤ c.n ∧ c.n < 256 ∧ 0 ≤ c.o ∧ c.o < 256 ∧ 0 ≤ c.r ∧ c.r < 256) → AllB (stepsBytes l)
  | [], _ => fun x hx => by simp [stepsBytes] at hx
  | c :: l, h => AllB.app (fun x hx => by
      have := h c (by simp)
      simp only [stepBytes, List.mem_cons, List.not_mem_nil, or_false] at hx
      rcases hx with rfl | rfl | rfl | rfl <;> omega) (steps_all fun y hy => h y (by simp [hy]))
theorem step_all_ranges {F : FontR} (h : checkF F = true) : ∀ c, c ∈ F.l8 → 0 ≤ c.s ∧ c.s < 256 ∧ 0 ≤ c.n ∧ c.n < 256 ∧ 0 ≤ c.o ∧ c.o < 256 ∧ 0 ≤ c.r ∧ c.r < 256 := by
  intro c hc
  obtain ⟨j, hj, rfl⟩ := List.mem_iff_getElem.1 hc
  simp only [checkF, checkB, stepsB, Bool.and_eq_true, Bool.not_eq_true'] at h
  have := anyOf_at h.2 j hj
  rw [List.getD_eq_getElem?_getD, List.getElem?_eq_getElem hj, Option.getD_some] at this
  simp only [Bool.not_eq_false', stepB, ofB, Bool.and_eq_true, decide_eq_true_eq] at this
  omega
theorem bytes_font {F : FontR} (h : checkF F = true) : Bytes (bytesF F) := by
  refine bytes_all ?_
  have hc := char_ranges (show checkB F.s F.d F.f F.l3 F.l4 F.l5 F.l6 F.l7 F.l8 F.l9 F.l10 = true from h)
  have h3 : AllB (charsBytes F.l3) := chars_all fun c hcm => by
    obtain ⟨j, hj, rfl⟩ := List.mem_iff_getElem.1 hcm
    have := hc j hj
    rw [List.getD_eq_getElem?_getD, List.getElem?_eq_getElem hj, Option.getD_some] at this
    exact this
  have h8 : AllB (stepsBytes F.l8) := steps_all (step_all_ranges h)
  exact (((((((((((twos_all _).app (be_all _ 4)).app (be_all _ 4)).app h3).app (fix_all _)).app (fix_all _)).app (fix_all _)).app (fix_all _)).app h8).app (fix_all _)).app (fix_all _))

/-! A font without its steps. -/
def plainC (c : ChR) : ChR := { c with t := 0, r := 0 }
def plainF (F : FontR) : FontR := { F with l3 := F.l3.map plainC, l8 := [], l9 := [] }
theorem getD_map (l : List ChR) (j : Nat) : (l.map plainC).getD j zCh = plainC (l.getD j zCh) := by
  simp only [List.getD_eq_getElem?_getD, List.getElem?_map]
  cases l[j]? <;> rfl
theorem anyOf_mono {p q : Nat → Bool} {d : Nat} (h : ∀ j, j < d → p j = false → q j = false) (hp : anyOf p 0 d = false) : anyOf q 0 d = false :=
  anyOf_false.2 fun j h1 h2 => h j (by omega) (anyOf_false.1 hp j h1 h2)
theorem plain_check {F : FontR} (h : checkF F = true) : checkF (plainF F) = true := by
  show checkB F.s F.d F.f (F.l3.map plainC) F.l4 F.l5 F.l6 F.l7 [] [] F.l10 = true
  simp only [checkF] at h
  simp only [checkB, Bool.and_eq_true, List.length_map, decide_eq_true_eq, charsB, stepsB, Bool.not_eq_true'] at h ⊢
  obtain ⟨⟨⟨⟨⟨⟨⟨⟨⟨⟨⟨⟨⟨⟨q1, q2⟩, q3⟩, q4⟩, q5⟩, q6⟩, q7⟩, t4⟩, t5⟩, t6⟩, t7⟩, t9⟩, t10⟩, c1⟩, c2⟩ := h
  refine ⟨⟨⟨⟨⟨⟨⟨⟨⟨⟨⟨⟨⟨⟨q1, q2⟩, q3⟩, q4⟩, q5⟩, q6⟩, by simp⟩, t4⟩, t5⟩, t6⟩, t7⟩, by decide⟩, t10⟩, ?_⟩, rfl⟩
  refine anyOf_mono (fun j hj hp => ?_) c1
  rw [getD_map]
  simp only [Bool.not_eq_false', charB, plainC, Bool.and_eq_true, Bool.or_eq_true, beq_iff_eq] at hp ⊢
  exact ⟨⟨⟨⟨.inl ⟨by trivial, by trivial⟩, hp.1.1.1.2⟩, hp.1.1.2⟩, hp.1.2⟩, hp.2⟩
def hasF (F : FontR) (code : Int) : Bool := hasB F.s F.d F.f F.l3 F.l4 F.l5 F.l6 F.l7 F.l8 F.l9 F.l10 code
theorem hasF_eq (F : FontR) (code : Int) : hasF F code = (checkF F && decide (F.f ≤ code) && decide (code < F.f + F.l3.length) && decide (0 < (F.l3.getD (code - F.f).toNat zCh).w)) := rfl
theorem plain_has {F : FontR} (h : checkF F = true) (code : Int) : hasF (plainF F) code = hasF F code := by
  rw [hasF_eq, hasF_eq, plain_check h, h]
  simp only [plainF, List.length_map, getD_map]
  rfl
theorem has_check {F : FontR} {code : Int} (h : hasF F code = true) : checkF F = true := by
  rw [hasF_eq] at h
  simp only [Bool.and_eq_true] at h
  exact h.1.1.1
end Go.Proofs.Ytllllmhekdcbiaa
