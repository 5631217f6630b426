/- The plain laws of fonts' bytes: what is written is read again; what is read was written so. -/
import Derived.Test.YtllllmhekdcbiaaTfmAwake
set_option linter.unusedVariables false
set_option linter.unusedSimpArgs false
namespace Go.Proofs.Ytllllmhekdcbiaa

theorem tk2_be {n : Int} {r : List Int} {bad : Bool} (h : 0 ≤ n ∧ n < 65536) : tk 2 (be n 2 ++ r) bad = (n, r, bad) := by
  unfold tk; rw [if_neg (by simp [be])]; simp [be, unbe]; omega
theorem tk4_be {n : Int} {r : List Int} {bad : Bool} (h : 0 ≤ n ∧ n < 4294967296) : tk 4 (be n 4 ++ r) bad = (n, r, bad) := by
  unfold tk; rw [if_neg (by simp [be])]; simp [be, unbe]; omega
theorem tkTwos_twos : ∀ {xs : List Int} {r : List Int} {bad : Bool}, (∀ x, x ∈ xs → 0 ≤ x ∧ x < 65536) → tkTwos xs.length (twos xs ++ r) bad = (xs, r, bad)
  | [], r, bad, _ => rfl
  | x :: xs, r, bad, h => by
    have h1 := h x (by simp)
    have h2 := tkTwos_twos (xs := xs) (r := r) (bad := bad) (fun y hy => h y (by simp [hy]))
    show ((tk 2 (be x 2 ++ twos xs ++ r) bad).1 :: (tkTwos xs.length (tk 2 (be x 2 ++ twos xs ++ r) bad).2.1 (tk 2 (be x 2 ++ twos xs ++ r) bad).2.2).1, (tkTwos xs.length (tk 2 (be x 2 ++ twos xs ++ r) bad).2.1 (tk 2 (be x 2 ++ twos xs ++ r) bad).2.2).2) = _
    rw [List.append_assoc, tk2_be h1, h2]
theorem sgn_be {x : Int} {r : List Int} (h : -16777216 ≤ x ∧ x < 16777216) : sgn (unbe (be (x % 4294967296) 4 ++ r) 4) = x := by
  simp [sgn, be, unbe]
  split <;> omega
theorem tkFixes_fix : ∀ {xs : List Int} {r : List Int} {bad : Bool}, (∀ x, x ∈ xs → -16777216 ≤ x ∧ x < 16777216) → tkFixes xs.length (fixBytes xs ++ r) bad = (xs, r, bad)
  | [], r, bad, _ => rfl
  | x :: xs, r, bad, h => by
    have h1 := h x (by simp)
    have h2 := tkFixes_fix (xs := xs) (r := r) (bad := bad) (fun y hy => h y (by simp [hy]))
    have hl : ¬ (be (x % 4294967296) 4 ++ (fixBytes xs ++ r)).length < 4 := by simp [be_length]
    have hd : (be (x % 4294967296) 4 ++ (fixBytes xs ++ r)).drop 4 = fixBytes xs ++ r := by rw [List.drop_append_of_le_length (by simp [be_length])]; simp [be]
    have e : fixBytes (x :: xs) ++ r = be (x % 4294967296) 4 ++ (fixBytes xs ++ r) := by simp [fixBytes]
    rw [e]
    show (if (be (x % 4294967296) 4 ++ (fixBytes xs ++ r)).length < 4 then _ else _) = _
    rw [if_neg hl, hd, h2, sgn_be h1]
theorem tkEach_bs : ∀ {k : Nat} {bs r : List Int} {bad : Bool}, bs.length = 4 * k → tkEach k (bs ++ r) bad = (bs, r, bad)
  | 0, bs, r, bad, h => by
    have : bs = [] := List.length_eq_zero_iff.1 h
    subst this; rfl
  | k + 1, bs, r, bad, h => by
    match bs, h with
    | a :: b :: c :: d :: bs, h =>
      have h' : bs.length = 4 * k := by simp at h; omega
      have h2 := tkEach_bs (r := r) (bad := bad) h'
      show (if (a :: b :: c :: d :: (bs ++ r)).length < 4 then _ else _) = _
      rw [if_neg (by simp)]
      show ([a, b, c, d] ++ (tkEach k (bs ++ r) bad).1, (tkEach k (bs ++ r) bad).2) = _
      rw [h2]; rfl
theorem chars_bytes : ∀ {l : List ChR}, (∀ c, c ∈ l → 0 ≤ c.d ∧ c.d < 16 ∧ 0 ≤ c.t ∧ c.t < 4) → chars (charsBytes l) = l
  | [], _ => rfl
  | c :: l, h => by
    have h1 := h c (by simp)
    have h2 := chars_bytes (l := l) (fun x hx => h x (by simp [hx]))
    show rdChar c.w (16 * c.h + c.d) (4 * c.i + c.t) c.r :: chars (charsBytes l) = _
    rw [h2]
    obtain ⟨w, hh, d, i, t, r⟩ := c
    simp only [rdChar, List.cons.injEq, ChR.mk.injEq, and_true, true_and]
    simp only at h1
    omega
theorem steps_bytes : ∀ {l : List StR}, steps (stepsBytes l) = l
  | [] => rfl
  | c :: l => by
    show rdStep c.s c.n c.o c.r :: steps (stepsBytes l) = _
    rw [steps_bytes]; rfl

/-! What a check says, member by member. -/
theorem tableB_all {l : List Int} {a b : Int} (h : tableB l a b = true) : a ≤ l.length ∧ (l.length : Int) ≤ b ∧ ∀ x, x ∈ l → -16777216 ≤ x ∧ x < 16777216 := by
  simp only [tableB, Bool.and_eq_true, decide_eq_true_eq] at h
  refine ⟨h.1.1.1, h.1.1.2, fun x hx => ?_⟩
  have ha := h.1.2
  simp only [allFix, Bool.not_eq_true'] at ha
  obtain ⟨j, hj, rfl⟩ := List.mem_iff_getElem.1 hx
  have := anyOf_at ha j hj
  simp only [Bool.not_eq_false', fixB, Bool.and_eq_true, decide_eq_true_eq, List.getD_eq_getElem?_getD, List.getElem?_eq_getElem hj, Option.getD_some] at this
  exact this
def wordsF (F : FontR) : Nat := 8 + F.l3.length + F.l4.length + F.l5.length + F.l6.length + F.l7.length + F.l8.length + F.l9.length + F.l10.length
theorem bytesF_length (F : FontR) : (bytesF F).length = 4 * wordsF F := by
  simp only [bytesF, fontBytes, List.length_append, twos_length, be_length, charsBytes_length, fixBytes_length, stepsBytes_length, headOf, List.length_cons, List.length_nil, wordsF]
  omega
structure ChkF (F : FontR) : Prop where
  s : 0 ≤ F.s ∧ F.s < 4294967296
  d : 0 ≤ F.d ∧ F.d < 4294967296
  f : 0 ≤ F.f ∧ F.f < 256
  n3 : 1 ≤ F.l3.length ∧ (F.l3.length : Int) ≤ 256 - F.f
  n8 : F.l8.length ≤ 256
  n4 : F.l4.length ≤ 256
  n5 : F.l5.length ≤ 16
  n6 : F.l6.length ≤ 16
  n7 : F.l7.length ≤ 64
  n9 : F.l9.length ≤ 256
  n10 : F.l10.length ≤ 30
  a4 : ∀ x, x ∈ F.l4 → -16777216 ≤ x ∧ x < 16777216
  a5 : ∀ x, x ∈ F.l5 → -16777216 ≤ x ∧ x < 16777216
  a6 : ∀ x, x ∈ F.l6 → -16777216 ≤ x ∧ x < 16777216
  a7 : ∀ x, x ∈ F.l7 → -16777216 ≤ x ∧ x < 16777216
  a9 : ∀ x, x ∈ F.l9 → -16777216 ≤ x ∧ x < 16777216
  a10 : ∀ x, x ∈ F.l10 → -16777216 ≤ x ∧ x < 16777216
  c3 : ∀ c, c ∈ F.l3 → 0 ≤ c.d ∧ c.d < 16 ∧ 0 ≤ c.t ∧ c.t < 4
theorem chkF {F : FontR} (h : checkF F = true) : ChkF F := by
  have hr := char_ranges (show checkB F.s F.d F.f F.l3 F.l4 F.l5 F.l6 F.l7 F.l8 F.l9 F.l10 = true from h)
  have h' := h
  simp only [checkF, checkB, ofB, Bool.and_eq_true, decide_eq_true_eq] at h'
  obtain ⟨⟨⟨⟨⟨⟨⟨⟨⟨⟨⟨⟨⟨⟨q1, q2⟩, q3⟩, q4⟩, q5⟩, q6⟩, q7⟩, t4⟩, t5⟩, t6⟩, t7⟩, t9⟩, t10⟩, _⟩, _⟩ := h'
  have t4 := tableB_all t4
  have t5 := tableB_all t5
  have t6 := tableB_all t6
  have t7 := tableB_all t7
  have t9 := tableB_all t9
  have t10 := tableB_all t10
  refine ⟨by omega, by omega, by omega, by omega, by omega, by omega, by omega, by omega, by omega, by omega, by omega, t4.2.2, t5.2.2, t6.2.2, t7.2.2, t9.2.2, t10.2.2, fun c hc => ?_⟩
  obtain ⟨j, hj, rfl⟩ := List.mem_iff_getElem.1 hc
  have := hr j hj
  rw [List.getD_eq_getElem?_getD, List.getElem?_eq_getElem hj, Option.getD_some] at this
  omega
theorem wordsF_lt {F : FontR} (h : ChkF F) : wordsF F < 65536 := by
  obtain ⟨_, _, _, ⟨_, _⟩, _, _, _, _, _, _, _, _, _, _, _, _, _, _⟩ := h
  unfold wordsF; omega

/-- What is written is read again. -/
theorem read_write {F : FontR} (h : checkF F = true) : rdA (bytesF F) = some F := by
  have C := chkF h
  have hl := bytesF_length F
  have hw := wordsF_lt C
  obtain ⟨cs, cd, cf, c3, c8, c4, c5, c6, c7, c9, c10, a4, a5, a6, a7, a9, a10, cc⟩ := C
  have hm : ∀ x, x ∈ [(F.l4.length : Int), F.l5.length, F.l6.length, F.l7.length, F.l8.length, F.l9.length, 0, F.l10.length] → 0 ≤ x ∧ x < 65536 := by
    intro x hx
    simp only [List.mem_cons, List.not_mem_nil, or_false] at hx
    rcases hx with rfl | rfl | rfl | rfl | rfl | rfl | rfl | rfl <;> omega
  have e : bytesF F = be (8 + F.l3.length + F.l4.length + F.l5.length + F.l6.length + F.l7.length + F.l8.length + F.l9.length + F.l10.length) 2 ++ (be 2 2 ++ (be F.f 2 ++ (be (F.f + F.l3.length - 1) 2 ++ (twos [(F.l4.length : Int), F.l5.length, F.l6.length, F.l7.length, F.l8.length, F.l9.length, 0, F.l10.length] ++ (be F.s 4 ++ (be F.d 4 ++ (charsBytes F.l3 ++ (fixBytes F.l4 ++ (fixBytes F.l5 ++ (fixBytes F.l6 ++ (fixBytes F.l7 ++ (stepsBytes F.l8 ++ (fixBytes F.l9 ++ (fixBytes F.l10 ++ [])))))))))))))) := by
    simp only [bytesF, fontBytes, headOf, twos, List.append_assoc, List.append_nil, List.nil_append]
  unfold rdA
  rw [if_pos (by omega), hl, e]
  unfold rdB
  rw [tk2_be (by simp only [wordsF] at hw; omega), if_pos (by simp only [wordsF]; omega)]
  dsimp only
  unfold rdC
  rw [tk2_be (by omega), if_pos rfl]
  dsimp only
  unfold rdE
  rw [tk2_be (by omega)]
  dsimp only
  unfold rdF
  rw [tk2_be (by omega)]
  dsimp only
  have ht := tkTwos_twos (r := (be F.s 4 ++ (be F.d 4 ++ (charsBytes F.l3 ++ (fixBytes F.l4 ++ (fixBytes F.l5 ++ (fixBytes F.l6 ++ (fixBytes F.l7 ++ (stepsBytes F.l8 ++ (fixBytes F.l9 ++ (fixBytes F.l10 ++ []))))))))))) (bad := false) hm
  simp only [List.length_cons, List.length_nil, Nat.reduceAdd] at ht
  unfold rdG
  rw [ht, if_neg (by omega), if_pos (by rfl)]
  dsimp only
  unfold rdH
  rw [tk4_be cs]
  dsimp only
  unfold rdI
  rw [tk4_be cd]
  dsimp only
  rw [show (F.f + (F.l3.length : Int) - 1 - F.f + 1).toNat = F.l3.length by omega, tkEach_bs (charsBytes_length _)]
  unfold rd3
  dsimp only
  rw [chars_bytes cc]
  simp only [List.getD_cons_zero, List.getD_cons_succ, Int.toNat_natCast]
  rw [tkFixes_fix a4]
  unfold rd4
  simp only [List.getD_cons_zero, List.getD_cons_succ, Int.toNat_natCast]
  rw [tkFixes_fix a5]
  unfold rd5
  simp only [List.getD_cons_zero, List.getD_cons_succ, Int.toNat_natCast]
  rw [tkFixes_fix a6]
  unfold rd6
  simp only [List.getD_cons_zero, List.getD_cons_succ, Int.toNat_natCast]
  rw [tkFixes_fix a7]
  unfold rd7
  simp only [List.getD_cons_zero, List.getD_cons_succ, Int.toNat_natCast]
  rw [tkEach_bs (stepsBytes_length _)]
  unfold rdS
  simp only [List.getD_cons_zero, List.getD_cons_succ, Int.toNat_natCast, steps_bytes]
  rw [tkFixes_fix a9]
  unfold rdK
  simp only [List.getD_cons_zero, List.getD_cons_succ, Int.toNat_natCast]
  rw [tkFixes_fix a10]
  unfold rdP rdT
  exact if_pos ⟨rfl, rfl, h⟩

/-! What was read. -/
theorem tk2_of {l : List Int} {bad : Bool} (hb : Bytes l) (h : (tk 2 l bad).2.2 = false) : bad = false ∧ l = be (tk 2 l bad).1 2 ++ (tk 2 l bad).2.1 ∧ Bytes (tk 2 l bad).2.1 := by
  unfold tk at h ⊢
  split at h
  · cases h
  · rename_i hl
    rw [if_neg hl]
    match l, hl, hb with
    | a :: b :: r, _, hb =>
      have h0 := hb 0; have h1 := hb 1
      simp only [List.getD_cons_zero, List.getD_cons_succ] at h0 h1
      refine ⟨h, ?_, hb.drop 2⟩
      simp [be, unbe]; omega
    | [], hl, _ => simp at hl
    | [_], hl, _ => simp at hl
theorem tk4_of {l : List Int} {bad : Bool} (hb : Bytes l) (h : (tk 4 l bad).2.2 = false) : bad = false ∧ l = be (tk 4 l bad).1 4 ++ (tk 4 l bad).2.1 ∧ Bytes (tk 4 l bad).2.1 := by
  unfold tk at h ⊢
  split at h
  · cases h
  · rename_i hl
    rw [if_neg hl]
    match l, hl, hb with
    | a :: b :: c :: d :: r, _, hb =>
      have h0 := hb 0; have h1 := hb 1; have h2 := hb 2; have h3 := hb 3
      simp only [List.getD_cons_zero, List.getD_cons_succ] at h0 h1 h2 h3
      refine ⟨h, ?_, hb.drop 4⟩
      simp [be, unbe]; omega
    | [], hl, _ => simp at hl
    | [_], hl, _ => simp at hl
    | [_, _], hl, _ => simp at hl
    | [_, _, _], hl, _ => simp at hl
theorem tkTwos_of : ∀ {k : Nat} {l : List Int} {bad : Bool}, Bytes l → (tkTwos k l bad).2.2 = false → bad = false ∧ l = twos (tkTwos k l bad).1 ++ (tkTwos k l bad).2.1 ∧ Bytes (tkTwos k l bad).2.1 ∧ (tkTwos k l bad).1.length = k
  | 0, l, bad, hb, h => ⟨h, rfl, hb, rfl⟩
  | k + 1, l, bad, hb, h => by
    have hk := (tk_keeps 2 bad hb).1
    obtain ⟨q1, q2, q3, q4⟩ := tkTwos_of (k := k) hk h
    obtain ⟨p1, p2, p3⟩ := tk2_of hb q1
    refine ⟨p1, ?_, q3, by simp [tkTwos, q4]⟩
    show l = be (tk 2 l bad).1 2 ++ twos _ ++ (tkTwos k (tk 2 l bad).2.1 (tk 2 l bad).2.2).2.1
    rw [List.append_assoc, ← q2]
    exact p2
theorem fix_of {l : List Int} (hb : Bytes l) (h : ¬ l.length < 4) : l = be (sgn (unbe l 4) % 4294967296) 4 ++ l.drop 4 := by
  match l, h, hb with
  | a :: b :: c :: d :: r, _, hb =>
    have h0 := hb 0; have h1 := hb 1; have h2 := hb 2; have h3 := hb 3
    simp only [List.getD_cons_zero, List.getD_cons_succ] at h0 h1 h2 h3
    have e : sgn (unbe (a :: b :: c :: d :: r) 4) % 4294967296 = unbe (a :: b :: c :: d :: r) 4 := by
      simp [sgn, unbe]
      split <;> omega
    rw [e]
    simp [be, unbe]; omega
  | [], h, _ => simp at h
  | [_], h, _ => simp at h
  | [_, _], h, _ => simp at h
  | [_, _, _], h, _ => simp at h
theorem tkFixes_of : ∀ {k : Nat} {l : List Int} {bad : Bool}, Bytes l → (tkFixes k l bad).2.2 = false → bad = false ∧ l = fixBytes (tkFixes k l bad).1 ++ (tkFixes k l bad).2.1 ∧ Bytes (tkFixes k l bad).2.1 ∧ (tkFixes k l bad).1.length = k
  | 0, l, bad, hb, h => ⟨h, rfl, hb, rfl⟩
  | k + 1, l, bad, hb, h => by
    by_cases hl : l.length < 4
    · simp [tkFixes, hl] at h
    · have e : tkFixes (k + 1) l bad = (sgn (unbe l 4) :: (tkFixes k (l.drop 4) bad).1, (tkFixes k (l.drop 4) bad).2) := by simp [tkFixes, hl]
      rw [e] at h ⊢
      obtain ⟨q1, q2, q3, q4⟩ := tkFixes_of (k := k) (hb.drop 4) h
      refine ⟨q1, ?_, q3, by simp [q4]⟩
      show l = be _ 4 ++ fixBytes _ ++ _
      rw [List.append_assoc, ← q2]
      exact fix_of hb hl
theorem tkEach_of : ∀ {k : Nat} {l : List Int} {bad : Bool}, Bytes l → (tkEach k l bad).2.2 = false → bad = false ∧ l = (tkEach k l bad).1 ++ (tkEach k l bad).2.1 ∧ Bytes (tkEach k l bad).2.1 ∧ (tkEach k l bad).1.length = 4 * k
  | 0, l, bad, hb, h => ⟨h, rfl, hb, rfl⟩
  | k + 1, l, bad, hb, h => by
    by_cases hl : l.length < 4
    · simp [tkEach, hl] at h
    · have e : tkEach (k + 1) l bad = (l.take 4 ++ (tkEach k (l.drop 4) bad).1, (tkEach k (l.drop 4) bad).2) := by simp [tkEach, hl]
      rw [e] at h ⊢
      obtain ⟨q1, q2, q3, q4⟩ := tkEach_of (k := k) (hb.drop 4) h
      refine ⟨q1, ?_, q3, by simp [q4]; omega⟩
      show l = l.take 4 ++ _ ++ _
      rw [List.append_assoc, ← q2, List.take_append_drop]
theorem charsBytes_chars : ∀ {k : Nat} {l : List Int}, l.length = 4 * k → charsBytes (chars l) = l ∧ (chars l).length = k
  | 0, l, h => by
    have : l = [] := List.length_eq_zero_iff.1 h
    subst this; exact ⟨rfl, rfl⟩
  | k + 1, l, h => by
    match l, h with
    | a :: b :: c :: d :: r, h =>
      have h' : r.length = 4 * k := by simp at h; omega
      obtain ⟨h1, h2⟩ := charsBytes_chars h'
      refine ⟨?_, by show (chars r).length + 1 = _; rw [h2]⟩
      show [a, 16 * (b / 16) + b % 16, 4 * (c / 4) + c % 4, d] ++ charsBytes (chars r) = _
      rw [h1]
      simp; omega
theorem stepsBytes_steps : ∀ {k : Nat} {l : List Int}, l.length = 4 * k → stepsBytes (steps l) = l ∧ (steps l).length = k
  | 0, l, h => by
    have : l = [] := List.length_eq_zero_iff.1 h
    subst this; exact ⟨rfl, rfl⟩
  | k + 1, l, h => by
    match l, h with
    | a :: b :: c :: d :: r, h =>
      have h' : r.length = 4 * k := by simp at h; omega
      obtain ⟨h1, h2⟩ := stepsBytes_steps h'
      refine ⟨?_, by show (steps r).length + 1 = _; rw [h2]⟩
      show [a, b, c, d] ++ stepsBytes (steps r) = _
      rw [h1]; rfl
theorem rdT_some {F G : FontR} {t : Got} (h : rdT F t = some G) : F = G ∧ t.2.2 = false ∧ t.2.1 = [] ∧ checkF G = true := by
  unfold rdT at h
  split at h
  · rename_i hc
    cases h
    exact ⟨rfl, hc.1, hc.2.1, hc.2.2⟩
  · cases h

theorem rdK_of {m : List Int} {F G : FontR} {t : Got} (hb : Bytes t.2.1) (h : rdK m F t = some G) :
    t.2.2 = false ∧ t.2.1 = fixBytes G.l10 ∧ G.l10.length = (m.getD 7 0).toNat ∧ checkF G = true ∧ G = { F with l9 := t.1, l10 := G.l10 } := by
  obtain ⟨hG, hbad, hend, hck⟩ := rdT_some (show rdT { F with l9 := t.1, l10 := (tkFixes (m.getD 7 0).toNat t.2.1 t.2.2).1 } (tkFixes (m.getD 7 0).toNat t.2.1 t.2.2) = some G from h)
  obtain ⟨p1, p2, p3, p4⟩ := tkFixes_of hb hbad
  have e : G.l10 = (tkFixes (m.getD 7 0).toNat t.2.1 t.2.2).1 := by rw [← hG]
  rw [hend, ← e, List.append_nil] at p2
  rw [← e] at p4
  exact ⟨p1, p2, p4, hck, by rw [e]; exact hG.symm⟩
theorem rdS_of {m : List Int} {F G : FontR} {t : Got} (hb : Bytes t.2.1) (h : rdS m F t = some G) :
    t.2.2 = false ∧ t.2.1 = fixBytes G.l9 ++ fixBytes G.l10 ∧ (G.l9.length = (m.getD 5 0).toNat ∧ G.l10.length = (m.getD 7 0).toNat) ∧ checkF G = true ∧ G = { F with l8 := steps t.1, l9 := G.l9, l10 := G.l10 } := by
  have hk := (tkFixes_keeps (m.getD 5 0).toNat t.2.2 hb).1
  have h := show rdK m { F with l8 := steps t.1 } (tkFixes (m.getD 5 0).toNat t.2.1 t.2.2) = some G from h
  have ho := fun hh => tkFixes_of (k := (m.getD 5 0).toNat) (bad := t.2.2) hb hh
  generalize tkFixes (m.getD 5 0).toNat t.2.1 t.2.2 = u at hk h ho
  obtain ⟨q1, q2, q3, q4, q5⟩ := rdK_of hk h
  obtain ⟨p1, p2, p3, p4⟩ := ho q1
  have e : G.l9 = u.1 := by rw [q5]
  rw [q2, ← e] at p2
  rw [← e] at p4
  exact ⟨p1, p2, ⟨p4, q3⟩, q4, by rw [e]; exact q5⟩
theorem rd7_of {m : List Int} {F G : FontR} {t : Got} (hb : Bytes t.2.1) (h : rd7 m F t = some G) :
    t.2.2 = false ∧ t.2.1 = stepsBytes G.l8 ++ (fixBytes G.l9 ++ fixBytes G.l10) ∧ (G.l8.length = (m.getD 4 0).toNat ∧ G.l9.length = (m.getD 5 0).toNat ∧ G.l10.length = (m.getD 7 0).toNat) ∧ checkF G = true ∧ G = { F with l7 := t.1, l8 := G.l8, l9 := G.l9, l10 := G.l10 } := by
  have hk := (tkEach_keeps (m.getD 4 0).toNat t.2.2 hb).1
  have h := show rdS m { F with l7 := t.1 } (tkEach (m.getD 4 0).toNat t.2.1 t.2.2) = some G from h
  have ho := fun hh => tkEach_of (k := (m.getD 4 0).toNat) (bad := t.2.2) hb hh
  generalize tkEach (m.getD 4 0).toNat t.2.1 t.2.2 = u at hk h ho
  obtain ⟨q1, q2, q3, q4, q5⟩ := rdS_of hk h
  obtain ⟨p1, p2, p3, p4⟩ := ho q1
  obtain ⟨s1, s2⟩ := stepsBytes_steps p4
  have e : G.l8 = steps u.1 := by rw [q5]
  rw [q2, ← s1, ← e] at p2
  rw [← e] at s2
  exact ⟨p1, p2, ⟨s2, q3⟩, q4, by rw [e]; exact q5⟩
theorem rd6_of {m : List Int} {F G : FontR} {t : Got} (hb : Bytes t.2.1) (h : rd6 m F t = some G) :
    t.2.2 = false ∧ t.2.1 = fixBytes G.l7 ++ (stepsBytes G.l8 ++ (fixBytes G.l9 ++ fixBytes G.l10)) ∧ (G.l7.length = (m.getD 3 0).toNat ∧ G.l8.length = (m.getD 4 0).toNat ∧ G.l9.length = (m.getD 5 0).toNat ∧ G.l10.length = (m.getD 7 0).toNat) ∧ checkF G = true ∧ G = { F with l6 := t.1, l7 := G.l7, l8 := G.l8, l9 := G.l9, l10 := G.l10 } := by
  have hk := (tkFixes_keeps (m.getD 3 0).toNat t.2.2 hb).1
  have h := show rd7 m { F with l6 := t.1 } (tkFixes (m.getD 3 0).toNat t.2.1 t.2.2) = some G from h
  have ho := fun hh => tkFixes_of (k := (m.getD 3 0).toNat) (bad := t.2.2) hb hh
  generalize tkFixes (m.getD 3 0).toNat t.2.1 t.2.2 = u at hk h ho
  obtain ⟨q1, q2, q3, q4, q5⟩ := rd7_of hk h
  obtain ⟨p1, p2, p3, p4⟩ := ho q1
  have e : G.l7 = u.1 := by rw [q5]
  rw [q2, ← e] at p2
  rw [← e] at p4
  exact ⟨p1, p2, ⟨p4, q3⟩, q4, by rw [e]; exact q5⟩
theorem rd5_of {m : List Int} {F G : FontR} {t : Got} (hb : Bytes t.2.1) (h : rd5 m F t = some G) :
    t.2.2 = false ∧ t.2.1 = fixBytes G.l6 ++ (fixBytes G.l7 ++ (stepsBytes G.l8 ++ (fixBytes G.l9 ++ fixBytes G.l10))) ∧ (G.l6.length = (m.getD 2 0).toNat ∧ G.l7.length = (m.getD 3 0).toNat ∧ G.l8.length = (m.getD 4 0).toNat ∧ G.l9.length = (m.getD 5 0).toNat ∧ G.l10.length = (m.getD 7 0).toNat) ∧ checkF G = true ∧ G = { F with l5 := t.1, l6 := G.l6, l7 := G.l7, l8 := G.l8, l9 := G.l9, l10 := G.l10 } := by
  have hk := (tkFixes_keeps (m.getD 2 0).toNat t.2.2 hb).1
  have h := show rd6 m { F with l5 := t.1 } (tkFixes (m.getD 2 0).toNat t.2.1 t.2.2) = some G from h
  have ho := fun hh => tkFixes_of (k := (m.getD 2 0).toNat) (bad := t.2.2) hb hh
  generalize tkFixes (m.getD 2 0).toNat t.2.1 t.2.2 = u at hk h ho
  obtain ⟨q1, q2, q3, q4, q5⟩ := rd6_of hk h
  obtain ⟨p1, p2, p3, p4⟩ := ho q1
  have e : G.l6 = u.1 := by rw [q5]
  rw [q2, ← e] at p2
  rw [← e] at p4
  exact ⟨p1, p2, ⟨p4, q3⟩, q4, by rw [e]; exact q5⟩
theorem rd4_of {m : List Int} {F G : FontR} {t : Got} (hb : Bytes t.2.1) (h : rd4 m F t = some G) :
    t.2.2 = false ∧ t.2.1 = fixBytes G.l5 ++ (fixBytes G.l6 ++ (fixBytes G.l7 ++ (stepsBytes G.l8 ++ (fixBytes G.l9 ++ fixBytes G.l10)))) ∧ (G.l5.length = (m.getD 1 0).toNat ∧ G.l6.length = (m.getD 2 0).toNat ∧ G.l7.length = (m.getD 3 0).toNat ∧ G.l8.length = (m.getD 4 0).toNat ∧ G.l9.length = (m.getD 5 0).toNat ∧ G.l10.length = (m.getD 7 0).toNat) ∧ checkF G = true ∧ G = { F with l4 := t.1, l5 := G.l5, l6 := G.l6, l7 := G.l7, l8 := G.l8, l9 := G.l9, l10 := G.l10 } := by
  have hk := (tkFixes_keeps (m.getD 1 0).toNat t.2.2 hb).1
  have h := show rd5 m { F with l4 := t.1 } (tkFixes (m.getD 1 0).toNat t.2.1 t.2.2) = some G from h
  have ho := fun hh => tkFixes_of (k := (m.getD 1 0).toNat) (bad := t.2.2) hb hh
  generalize tkFixes (m.getD 1 0).toNat t.2.1 t.2.2 = u at hk h ho
  obtain ⟨q1, q2, q3, q4, q5⟩ := rd5_of hk h
  obtain ⟨p1, p2, p3, p4⟩ := ho q1
  have e : G.l5 = u.1 := by rw [q5]
  rw [q2, ← e] at p2
  rw [← e] at p4
  exact ⟨p1, p2, ⟨p4, q3⟩, q4, by rw [e]; exact q5⟩
theorem rd3_of {m : List Int} {F G : FontR} {t : Got} (hb : Bytes t.2.1) (h : rd3 m F t = some G) :
    t.2.2 = false ∧ t.2.1 = fixBytes G.l4 ++ (fixBytes G.l5 ++ (fixBytes G.l6 ++ (fixBytes G.l7 ++ (stepsBytes G.l8 ++ (fixBytes G.l9 ++ fixBytes G.l10))))) ∧ (G.l4.length = (m.getD 0 0).toNat ∧ G.l5.length = (m.getD 1 0).toNat ∧ G.l6.length = (m.getD 2 0).toNat ∧ G.l7.length = (m.getD 3 0).toNat ∧ G.l8.length = (m.getD 4 0).toNat ∧ G.l9.length = (m.getD 5 0).toNat ∧ G.l10.length = (m.getD 7 0).toNat) ∧ checkF G = true ∧ G = { F with l3 := chars t.1, l4 := G.l4, l5 := G.l5, l6 := G.l6, l7 := G.l7, l8 := G.l8, l9 := G.l9, l10 := G.l10 } := by
  have hk := (tkFixes_keeps (m.getD 0 0).toNat t.2.2 hb).1
  have h := show rd4 m { F with l3 := chars t.1 } (tkFixes (m.getD 0 0).toNat t.2.1 t.2.2) = some G from h
  have ho := fun hh => tkFixes_of (k := (m.getD 0 0).toNat) (bad := t.2.2) hb hh
  generalize tkFixes (m.getD 0 0).toNat t.2.1 t.2.2 = u at hk h ho
  obtain ⟨q1, q2, q3, q4, q5⟩ := rd4_of hk h
  obtain ⟨p1, p2, p3, p4⟩ := ho q1
  have e : G.l4 = u.1 := by rw [q5]
  rw [q2, ← e] at p2
  rw [← e] at p4
  exact ⟨p1, p2, ⟨p4, q3⟩, q4, by rw [e]; exact q5⟩
theorem rdI_of {f la s : Int} {m : List Int} {G : FontR} {t : Int × List Int × Bool} (hb : Bytes t.2.1) (h : rdI f la m s t = some G) :
    t.2.2 = false ∧ t.2.1 = charsBytes G.l3 ++ (fixBytes G.l4 ++ (fixBytes G.l5 ++ (fixBytes G.l6 ++ (fixBytes G.l7 ++ (stepsBytes G.l8 ++ (fixBytes G.l9 ++ fixBytes G.l10)))))) ∧ (G.l3.length = (la - f + 1).toNat ∧ G.l4.length = (m.getD 0 0).toNat ∧ G.l5.length = (m.getD 1 0).toNat ∧ G.l6.length = (m.getD 2 0).toNat ∧ G.l7.length = (m.getD 3 0).toNat ∧ G.l8.length = (m.getD 4 0).toNat ∧ G.l9.length = (m.getD 5 0).toNat ∧ G.l10.length = (m.getD 7 0).toNat) ∧ checkF G = true ∧ G.s = s ∧ G.d = t.1 ∧ G.f = f := by
  have hk := (tkEach_keeps (la - f + 1).toNat t.2.2 hb).1
  have h := show rd3 m ⟨s, t.1, f, [], [], [], [], [], [], [], []⟩ (tkEach (la - f + 1).toNat t.2.1 t.2.2) = some G from h
  have ho := fun hh => tkEach_of (k := (la - f + 1).toNat) (bad := t.2.2) hb hh
  generalize tkEach (la - f + 1).toNat t.2.1 t.2.2 = u at hk h ho
  obtain ⟨q1, q2, q3, q4, q5⟩ := rd3_of hk h
  obtain ⟨p1, p2, p3, p4⟩ := ho q1
  obtain ⟨s1, s2⟩ := charsBytes_chars p4
  have e : G.l3 = chars u.1 := by rw [q5]
  rw [q2, ← s1, ← e] at p2
  rw [← e] at s2
  exact ⟨p1, p2, ⟨s2, q3⟩, q4, by rw [q5], by rw [q5], by rw [q5]⟩
theorem rdH_of {f la : Int} {m : List Int} {G : FontR} {t : Int × List Int × Bool} (hb : Bytes t.2.1) (h : rdH f la m t = some G) :
    t.2.2 = false ∧ t.2.1 = be G.d 4 ++ (charsBytes G.l3 ++ (fixBytes G.l4 ++ (fixBytes G.l5 ++ (fixBytes G.l6 ++ (fixBytes G.l7 ++ (stepsBytes G.l8 ++ (fixBytes G.l9 ++ fixBytes G.l10))))))) ∧ (G.l3.length = (la - f + 1).toNat ∧ G.l4.length = (m.getD 0 0).toNat ∧ G.l5.length = (m.getD 1 0).toNat ∧ G.l6.length = (m.getD 2 0).toNat ∧ G.l7.length = (m.getD 3 0).toNat ∧ G.l8.length = (m.getD 4 0).toNat ∧ G.l9.length = (m.getD 5 0).toNat ∧ G.l10.length = (m.getD 7 0).toNat) ∧ checkF G = true ∧ G.s = t.1 ∧ G.f = f := by
  have hk := (tk_keeps 4 t.2.2 hb).1
  have h := show rdI f la m t.1 (tk 4 t.2.1 t.2.2) = some G from h
  have ho := fun hh => tk4_of (bad := t.2.2) hb hh
  generalize tk 4 t.2.1 t.2.2 = u at hk h ho
  obtain ⟨q1, q2, q3, q4, q5, q6, q7⟩ := rdI_of hk h
  obtain ⟨p1, p2, p3⟩ := ho q1
  rw [q2, ← q6] at p2
  exact ⟨p1, p2, q3, q4, q5, q7⟩
theorem rdG_of {f la : Int} {G : FontR} {t : Got} (hb : Bytes t.2.1) (h : rdG f la t = some G) :
    t.2.2 = false ∧ t.2.1 = be G.s 4 ++ (be G.d 4 ++ (charsBytes G.l3 ++ (fixBytes G.l4 ++ (fixBytes G.l5 ++ (fixBytes G.l6 ++ (fixBytes G.l7 ++ (stepsBytes G.l8 ++ (fixBytes G.l9 ++ fixBytes G.l10)))))))) ∧ f ≤ la ∧ t.1.getD 6 0 = 0 ∧ (let m := t.1; G.l3.length = (la - f + 1).toNat ∧ G.l4.length = (m.getD 0 0).toNat ∧ G.l5.length = (m.getD 1 0).toNat ∧ G.l6.length = (m.getD 2 0).toNat ∧ G.l7.length = (m.getD 3 0).toNat ∧ G.l8.length = (m.getD 4 0).toNat ∧ G.l9.length = (m.getD 5 0).toNat ∧ G.l10.length = (m.getD 7 0).toNat) ∧ checkF G = true ∧ G.f = f := by
  unfold rdG at h
  split at h <;> rename_i hla
  · cases h
  split at h <;> rename_i h6
  rotate_left
  · cases h
  have hk := (tk_keeps 4 t.2.2 hb).1
  have ho := fun hh => tk4_of (bad := t.2.2) hb hh
  generalize tk 4 t.2.1 t.2.2 = u at hk h ho
  obtain ⟨q1, q2, q3, q4, q5, q6⟩ := rdH_of hk h
  obtain ⟨p1, p2, p3⟩ := ho q1
  rw [q2, ← q5] at p2
  exact ⟨p1, p2, by omega, h6, q3, q4, q6⟩
/-- What is read was written so. -/
theorem write_read {l : List Int} {G : FontR} (hb : Bytes l) (h : rdA l = some G) : checkF G = true ∧ bytesF G = l := by
  unfold rdA at h
  split at h <;> rename_i hl4
  rotate_left
  · cases h
  have B1 := (tk_keeps 2 false hb).1
  have o1 := fun hh => tk2_of (bad := false) hb hh
  generalize tk 2 l false = t1 at h B1 o1
  unfold rdB at h
  split at h <;> rename_i hw
  rotate_left
  · cases h
  have B2 := (tk_keeps 2 t1.2.2 B1).1
  have o2 := fun hh => tk2_of (bad := t1.2.2) B1 hh
  generalize tk 2 t1.2.1 t1.2.2 = t2 at h B2 o2
  unfold rdC at h
  split at h <;> rename_i h2
  rotate_left
  · cases h
  have B3 := (tk_keeps 2 t2.2.2 B2).1
  have o3 := fun hh => tk2_of (bad := t2.2.2) B2 hh
  generalize tk 2 t2.2.1 t2.2.2 = t3 at h B3 o3
  unfold rdE at h
  have B4 := (tk_keeps 2 t3.2.2 B3).1
  have o4 := fun hh => tk2_of (bad := t3.2.2) B3 hh
  generalize tk 2 t3.2.1 t3.2.2 = t4 at h B4 o4
  unfold rdF at h
  have Bm := tkTwos_keeps 8 t4.2.2 B4
  have om := fun hh => tkTwos_of (k := 8) (bad := t4.2.2) B4 hh
  generalize tkTwos 8 t4.2.1 t4.2.2 = tm at h Bm om
  obtain ⟨q1, q2, q3, q4, q5, q6, q7⟩ := rdG_of Bm.1 h
  obtain ⟨m1, m2, m3, m4⟩ := om q1
  obtain ⟨a1, a2, a3⟩ := o4 m1
  obtain ⟨b1, b2, b3⟩ := o3 a1
  obtain ⟨c1, c2, c3⟩ := o2 b1
  obtain ⟨d1, d2, d3⟩ := o1 c1
  refine ⟨q6, ?_⟩
  obtain ⟨xs, r, bad⟩ := tm
  simp only at q1 q2 q3 q4 q5 q6 q7 m1 m2 m3 m4 Bm
  obtain ⟨n0, n1, n2, n3, n4, n5, n6, n7, rfl⟩ : ∃ n0 n1 n2 n3 n4 n5 n6 n7, xs = [n0, n1, n2, n3, n4, n5, n6, n7] := by
    match xs, m4 with
    | [_, _, _, _, _, _, _, _], _ => exact ⟨_, _, _, _, _, _, _, _, rfl⟩
  have hmr := Bm.2.2.2
  simp only [List.getD_cons_zero, List.getD_cons_succ] at q4 q5
  have r0 := hmr n0 (by simp); have r1 := hmr n1 (by simp); have r2 := hmr n2 (by simp); have r3 := hmr n3 (by simp)
  have r4 := hmr n4 (by simp); have r5 := hmr n5 (by simp); have r7 := hmr n7 (by simp)
  obtain ⟨k3, k4, k5, k6, k7, k8, k9, k10⟩ := q5
  have hL : l = be t1.1 2 ++ (be t2.1 2 ++ (be t3.1 2 ++ (be t4.1 2 ++ (twos [n0, n1, n2, n3, n4, n5, n6, n7] ++ r)))) := by rw [← m2, ← a2, ← b2, ← c2, ← d2]
  rw [q2] at hL
  have hlen := congrArg List.length hL
  simp only [List.length_append, be_length, twos_length, fixBytes_length, charsBytes_length, stepsBytes_length, List.length_cons, List.length_nil] at hlen
  have e1 : (8 + (G.l3.length : Int) + G.l4.length + G.l5.length + G.l6.length + G.l7.length + G.l8.length + G.l9.length + G.l10.length) = t1.1 := by rw [hw]; omega
  have e4 : G.f + (G.l3.length : Int) - 1 = t4.1 := by omega
  rw [hL]
  simp only [bytesF, fontBytes, headOf, twos, List.append_assoc, List.append_nil, List.nil_append]
  rw [e1, e4, q7, h2, show (G.l4.length : Int) = n0 by omega, show (G.l5.length : Int) = n1 by omega, show (G.l6.length : Int) = n2 by omega, show (G.l7.length : Int) = n3 by omega, show (G.l8.length : Int) = n4 by omega, show (G.l9.length : Int) = n5 by omega, show (G.l10.length : Int) = n7 by omega, q4]

/-- The length's bytes stand ahead. -/
theorem bytesF_head {F : FontR} : ∃ r, bytesF F = be (wordsF F) 2 ++ r :=
  ⟨(twos (headOf F.f F.l3 F.l4 F.l5 F.l6 F.l7 F.l8 F.l9 F.l10)).drop 2 ++ be F.s 4 ++ be F.d 4 ++ charsBytes F.l3 ++ fixBytes F.l4 ++ fixBytes F.l5 ++ fixBytes F.l6 ++ fixBytes F.l7 ++ stepsBytes F.l8 ++ fixBytes F.l9 ++ fixBytes F.l10,
    by simp [bytesF, fontBytes, headOf, twos, be, wordsF]⟩
theorem be2_inj {a b : Int} (ha : 0 ≤ a ∧ a < 65536) (hb : 0 ≤ b ∧ b < 65536) (h : be a 2 = be b 2) : a = b := by
  simp [be] at h
  omega
theorem same_words {F G : FontR} (hF : checkF F = true) (hG : checkF G = true) {a b : List Int} (h : ∃ p : List Int, 2 ≤ p.length ∧ bytesF F = p ++ a ∧ bytesF G = p ++ b) : (bytesF F).length = (bytesF G).length := by
  obtain ⟨p, hp, h1, h2⟩ := h
  obtain ⟨r, hr⟩ := bytesF_head (F := F)
  obtain ⟨q, hq⟩ := bytesF_head (F := G)
  have e1 : (bytesF F).take 2 = be (wordsF F) 2 := by rw [hr, List.take_append_of_le_length (by simp [be_length]), List.take_of_length_le (by simp [be_length])]
  have e2 : (bytesF G).take 2 = be (wordsF G) 2 := by rw [hq, List.take_append_of_le_length (by simp [be_length]), List.take_of_length_le (by simp [be_length])]
  have e3 : (bytesF F).take 2 = (bytesF G).take 2 := by rw [h1, h2, List.take_append_of_le_length hp, List.take_append_of_le_length hp]
  have := wordsF_lt (chkF hF)
  have := wordsF_lt (chkF hG)
  have hw := be2_inj (by omega) (by omega) (e1.symm.trans (e3.trans e2))
  rw [bytesF_length, bytesF_length]
  omega
/-- No beginning of a font's bytes is a font. -/
theorem cut_none {F : FontR} (hF : checkF F = true) (hb : Bytes (bytesF F)) {k : Nat} (hk : k < (bytesF F).length) : rdA ((bytesF F).take k) = none := by
  cases h : rdA ((bytesF F).take k) with
  | none => rfl
  | some G =>
    exfalso
    obtain ⟨hG, he⟩ := write_read (hb.take k) h
    have hl := bytesF_length G
    rw [he] at hl
    have hl2 : ((bytesF F).take k).length = k := by simp; omega
    have hw : 8 ≤ wordsF G := by unfold wordsF; omega
    have := same_words (a := (bytesF F).drop k) (b := []) hF hG ⟨(bytesF F).take k, by omega, (List.take_append_drop _ _).symm, by rw [he, List.append_nil]⟩
    rw [he, hl2] at this
    omega
/-- Nor is one with more behind. -/
theorem more_none {F : FontR} (hF : checkF F = true) {m : List Int} (hb : Bytes (bytesF F ++ m)) (hm : m ≠ []) : rdA (bytesF F ++ m) = none := by
  cases h : rdA (bytesF F ++ m) with
  | none => rfl
  | some G =>
    exfalso
    obtain ⟨hG, he⟩ := write_read hb h
    have hl := bytesF_length F
    have hw : 8 ≤ wordsF F := by unfold wordsF; omega
    have := same_words (a := []) (b := m) hF hG ⟨bytesF F, by omega, by rw [List.append_nil], he⟩
    rw [he, List.length_append] at this
    exact hm (List.length_eq_zero_iff.1 (by omega))
theorem first_two {F : FontR} (hF : checkF F = true) : 4 * (256 * (bytesF F).getD 0 0 + (bytesF F).getD 1 0) = (bytesF F).length := by
  have hw := wordsF_lt (chkF hF)
  rw [bytesF_length]
  obtain ⟨r, hr⟩ := bytesF_head (F := F)
  rw [hr]
  simp [be]
  omega
end Go.Proofs.Ytllllmhekdcbiaa
