/- tfm's Write, walked: a font's bytes. -/
import Derived.Test.YtllllmhekdcbiaaTfmOut
import Derived.Test.YtllllmhekdcbiaaTfmHas
import Derived.Deep.RegionLaw
set_option linter.unusedVariables false
set_option linter.unusedSimpArgs false
namespace Go.Proofs.Ytllllmhekdcbiaa
open Go.RowKit Go.Proofs.YtllllmhekdcbiaaW.PrintWords

/-- Numbers of two bytes each. -/
def twos : List Int → List Int
  | [] => []
  | n :: l => be n 2 ++ twos l
theorem twos_length : ∀ l, (twos l).length = 2 * l.length
  | [] => rfl
  | n :: l => by simp [twos, twos_length l, be_length]; omega
theorem twos_snoc : ∀ (l : List Int) (n : Int), twos (l ++ [n]) = twos l ++ be n 2
  | [], n => by simp [twos]
  | m :: l, n => by simp [twos, twos_snoc l n]
def charBytes (c : ChR) : List Int := [c.w, 16 * c.h + c.d, 4 * c.i + c.t, c.r]
def charsBytes : List ChR → List Int
  | [] => []
  | c :: l => charBytes c ++ charsBytes l
def stepBytes (x : StR) : List Int := [x.s, x.n, x.o, x.r]
def stepsBytes : List StR → List Int
  | [] => []
  | x :: l => stepBytes x ++ stepsBytes l
def headOf (f : Int) (l3 : List ChR) (l4 l5 l6 l7 : List Int) (l8 : List StR) (l9 l10 : List Int) : List Int :=
  [8 + l3.length + l4.length + l5.length + l6.length + l7.length + l8.length + l9.length + l10.length, 2, f, f + l3.length - 1, l4.length, l5.length, l6.length, l7.length, l8.length, l9.length, 0, l10.length]
/-- A font's bytes. -/
def fontBytes (s d f : Int) (l3 : List ChR) (l4 l5 l6 l7 : List Int) (l8 : List StR) (l9 l10 : List Int) : List Int :=
  twos (headOf f l3 l4 l5 l6 l7 l8 l9 l10) ++ be s 4 ++ be d 4 ++ charsBytes l3 ++ fixBytes l4 ++ fixBytes l5 ++ fixBytes l6 ++ fixBytes l7 ++ stepsBytes l8 ++ fixBytes l9 ++ fixBytes l10

theorem charsBytes_append : ∀ (l m : List ChR), charsBytes (l ++ m) = charsBytes l ++ charsBytes m
  | [], m => rfl
  | n :: l, m => by simp [charsBytes, charsBytes_append l m]
theorem stepsBytes_append : ∀ (l m : List StR), stepsBytes (l ++ m) = stepsBytes l ++ stepsBytes m
  | [], m => rfl
  | n :: l, m => by simp [stepsBytes, stepsBytes_append l m]
theorem charsBytes_length : ∀ l, (charsBytes l).length = 4 * l.length
  | [] => rfl
  | n :: l => by simp [charsBytes, charsBytes_length l, charBytes]; omega
theorem stepsBytes_length : ∀ l, (stepsBytes l).length = 4 * l.length
  | [] => rfl
  | n :: l => by simp [stepsBytes, stepsBytes_length l, stepBytes]; omega
theorem charsBytes_snoc (l : List ChR) (k : Nat) (h : k < l.length) : charsBytes (l.take (k + 1)) = charsBytes (l.take k) ++ charBytes (l.getD k zCh) := by
  rw [List.take_succ_eq_append_getElem h, charsBytes_append]
  simp [charsBytes, List.getD_eq_getElem?_getD, List.getElem?_eq_getElem h]
theorem stepsBytes_snoc (l : List StR) (k : Nat) (h : k < l.length) : stepsBytes (l.take (k + 1)) = stepsBytes (l.take k) ++ stepBytes (l.getD k zSt) := by
  rw [List.take_succ_eq_append_getElem h, stepsBytes_append]
  simp [stepsBytes, List.getD_eq_getElem?_getD, List.getElem?_eq_getElem h]

theorem anyOf_at {p : Nat → Bool} {n : Nat} (h : anyOf p 0 n = false) (j : Nat) (hj : j < n) : p j = false := anyOf_false.1 h j (Nat.zero_le _) (by omega)
theorem char_ranges {s d f : Int} {l3 : List ChR} {l4 l5 l6 l7 : List Int} {l8 : List StR} {l9 l10 : List Int} (h : checkB s d f l3 l4 l5 l6 l7 l8 l9 l10 = true) (j : Nat) (hj : j < l3.length) :
    0 ≤ (l3.getD j zCh).w ∧ (l3.getD j zCh).w < 256 ∧ 0 ≤ (l3.getD j zCh).h ∧ (l3.getD j zCh).h < 16 ∧ 0 ≤ (l3.getD j zCh).d ∧ (l3.getD j zCh).d < 16 ∧ 0 ≤ (l3.getD j zCh).i ∧ (l3.getD j zCh).i < 64 ∧ 0 ≤ (l3.getD j zCh).t ∧ (l3.getD j zCh).t < 2 ∧ 0 ≤ (l3.getD j zCh).r ∧ (l3.getD j zCh).r < 256 := by
  simp only [checkB, charsB, tableB, Bool.and_eq_true, Bool.not_eq_true', decide_eq_true_eq] at h
  have hc := anyOf_at (p := fun j => !charB l4.length l5.length l6.length l7.length l8.length (l3.getD j zCh)) h.1.2 j hj
  generalize l3.getD j zCh = c at hc ⊢
  simp only [Bool.not_eq_false', charB, ofB, Bool.and_eq_true, Bool.or_eq_true, beq_iff_eq, decide_eq_true_eq] at hc
  omega
theorem step_ranges {s d f : Int} {l3 : List ChR} {l4 l5 l6 l7 : List Int} {l8 : List StR} {l9 l10 : List Int} (h : checkB s d f l3 l4 l5 l6 l7 l8 l9 l10 = true) (j : Nat) (hj : j < l8.length) :
    0 ≤ (l8.getD j zSt).s ∧ (l8.getD j zSt).s < 256 ∧ 0 ≤ (l8.getD j zSt).n ∧ (l8.getD j zSt).n < 256 ∧ 0 ≤ (l8.getD j zSt).o ∧ (l8.getD j zSt).o < 256 ∧ 0 ≤ (l8.getD j zSt).r ∧ (l8.getD j zSt).r < 256 := by
  simp only [checkB, stepsB, Bool.and_eq_true, Bool.not_eq_true'] at h
  have hc := anyOf_at (p := fun j => !stepB (l8.getD j zSt)) h.2 j hj
  generalize l8.getD j zSt = c at hc ⊢
  simp only [Bool.not_eq_false', stepB, ofB, Bool.and_eq_true, decide_eq_true_eq] at hc
  omega

set_option maxHeartbeats 4000000 in
set_option maxRecDepth 100000 in
theorem write_no (s d f : Int) (A3 A4 A5 A6 A7 A8 A9 A10 : Option Addr) (c3 c4 c5 c6 c7 c8 c9 c10 : Nat) (l3 : List ChR) (l4 l5 l6 l7 : List Int) (l8 : List StR) (l9 l10 : List Int) (w : World) (h3 : kChar.C w A3 l3.length l3) (h4 : (Kd.int .i64).C w A4 l4.length l4) (h5 : (Kd.int .i64).C w A5 l5.length l5) (h6 : (Kd.int .i64).C w A6 l6.length l6) (h7 : (Kd.int .i64).C w A7 l7.length l7) (h8 : kStep.C w A8 l8.length l8) (h9 : (Kd.int .i64).C w A9 l9.length l9) (h10 : (Kd.int .i64).C w A10 l10.length l10) (hk : checkB s d f l3 l4 l5 l6 l7 l8 l9 l10 = false) :
    Calls Try.prog 9 #[.agg #[.int .i64 s, .int .i64 d, .int .i64 f, .slice A3 l3.length c3, .slice A4 l4.length c4, .slice A5 l5.length c5, .slice A6 l6.length c6, .slice A7 l7.length c7, .slice A8 l8.length c8, .slice A9 l9.length c9, .slice A10 l10.length c10]] w fun e w' => e = .returned (.tuple #[.slice none 0 0, .int .i64 70]) ∧ Below w.heap.size w w' := by
  have HCK : ∀ W, Below w.heap.size w W → Calls Try.prog 12 #[.agg #[.int .i64 s, .int .i64 d, .int .i64 f, .slice A3 l3.length c3, .slice A4 l4.length c4, .slice A5 l5.length c5, .slice A6 l6.length c6, .slice A7 l7.length c7, .slice A8 l8.length c8, .slice A9 l9.length c9, .slice A10 l10.length c10]] W fun e w' => e = .returned (.bool (checkB s d f l3 l4 l5 l6 l7 l8 l9 l10)) ∧ Below W.heap.size W w' := fun W HB =>
    check_any s d f A3 A4 A5 A6 A7 A8 A9 A10 c3 c4 c5 c6 c7 c8 c9 c10 l3 l4 l5 l6 l7 l8 l9 l10 W (Kd.C_below h3 HB) (Kd.C_below h4 HB) (Kd.C_below h5 HB) (Kd.C_below h6 HB) (Kd.C_below h7 HB) (Kd.C_below h8 HB) (Kd.C_below h9 HB) (Kd.C_below h10 HB)
  rw [hk] at HCK
  have HCA := aside HCK
  clear h3 h4 h5 h6 h7 h8 h9 h10 HCK hk
  go_enter Try.func9, Try.ntmps9
  go_wp2_with (go_at_call 12; refine (HCA.out _ (below_alloc (Below.refl _ _) _)).mono ?_; rintro e w' ⟨rfl, hb'⟩)
  go_ret2
  exact ⟨rfl, below_next (below_alloc (Below.refl _ _) _) hb'⟩

/-- What holds at a world while a font is written: old memory, the font's own block, the bytes so far. -/
structure WSt (w W : World) (bx bo : Nat) (fc : Array Value) (L : List Int) : Prop where
  below : Below w.heap.size w W
  fx : W.heap[bx]? = some (.cells fc 26 (0, 0))
  out : OutIs W w.heap.size bo L
  ne : bx ≠ bo
theorem WSt.grown {w W W' : World} {bx bo : Nat} {fc : Array Value} {L L' : List Int} (h : WSt w W bx bo fc L) (ho : OutIs W' w.heap.size bo L') (hg : W.grownBy W' (some bo)) : WSt w W' bx bo fc L' := by
  obtain ⟨v, hv, hb, hR⟩ := h.out
  exact ⟨h.below.grown hg h.below.size (fun k hk => by cases hk; exact hb), blk_grown h.fx hg (by simpa using h.ne), ho, h.ne⟩
theorem WSt.cell {w W : World} {bx bo : Nat} {fc : Array Value} {L : List Int} (h : WSt w W bx bo fc L) (i : Nat) (v : Value) (hv : fc[i]? = some v) : W.cell? ⟨bx, i, none⟩ = some v := (blk_cell h.fx i).trans hv
theorem WSt.lt {w W : World} {bx bo : Nat} {fc : Array Value} {L : List Int} (h : WSt w W bx bo fc L) : bx < W.heap.size ∧ bo < W.heap.size := by
  obtain ⟨v, hv, hb, hR⟩ := h.out
  exact ⟨blk_lt h.fx, blk_lt hv⟩

/-- Behind the store of a row of one's own into the bytes' block. -/
theorem WSt.stored {w wr w1 : World} {bx bo : Nat} {fc : Array Value} {L L' : List Int} {v0 v1 : Value} (h : WSt w wr bx bo fc L) (hB : Below w.heap.size w w1) (hfx : w1.heap[bx]? = some (.cells fc 26 (0, 0)))
    (hbo : w1.heap[bo]? = some (.cells #[v0] 44 (0, 0))) (hR : (Kd.int .u8).R 5 w1 w.heap.size (fun k => k ≠ bo) v1 L') : WSt w (w1.setCell ⟨bo, 0, none⟩ v1) bx bo fc L' := by
  obtain ⟨v, hv, hb, hR0⟩ := h.out
  exact ⟨hB.setCell (p := ⟨bo, 0, none⟩) hb v1, blk_far hfx h.ne v1, ⟨v1, blk_set hbo 0 v1, hb, Kd.R_far (p := ⟨bo, 0, none⟩) hR (fun k hk => hk) v1⟩, h.ne⟩
theorem wr8 (n : Int) (h0 : 0 ≤ n) (h1 : n < 256) : IntKind.u8.wrap n = n := by rw [IntKind.wrap_u8]; omega
theorem or4 (h d : Int) (h0 : 0 ≤ h) (h1 : h < 16) (h2 : 0 ≤ d) (h3 : d < 16) : IntKind.u8.wrap (bits .or .i64 (IntKind.i64.wrap (h * 16)) d) = 16 * h + d := by
  rw [show IntKind.i64.wrap (h * 16) = h * 16 by rw [IntKind.wrap_i64]; omega, i64_join 4 _ _ (by omega) (by omega) (by omega) (by omega) (by omega) (by show d < 16; omega), IntKind.wrap_u8]
  omega
theorem or2 (h d : Int) (h0 : 0 ≤ h) (h1 : h < 64) (h2 : 0 ≤ d) (h3 : d < 4) : IntKind.u8.wrap (bits .or .i64 (IntKind.i64.wrap (h * 4)) d) = 4 * h + d := by
  rw [show IntKind.i64.wrap (h * 4) = h * 4 by rw [IntKind.wrap_i64]; omega, i64_join 2 _ _ (by omega) (by omega) (by omega) (by omega) (by omega) (by show d < 4; omega), IntKind.wrap_u8]
  omega

def fixAll : List (List Int) → List Int
  | [] => []
  | l :: r => fixBytes l ++ fixAll r
theorem C_far {k : IntKind} {w W : World} {A : Option Addr} {xs : List Int} {bx bo : Nat} {fc : Array Value} {L : List Int} (h : (Kd.int k).C w A xs.length xs) (hs : WSt w W bx bo fc L) : ∀ ad, A = some ad → 0 < xs.length → ad.block ≠ bo := by
  intro ad hA hn
  obtain ⟨ad', e, hF⟩ := int_cells' h hn
  rw [hA] at e; cases e
  have h1 := World.block_lt_of_cell? w _ (hF 0 hn)
  rw [add_block] at h1
  obtain ⟨v, hv, hb, hR⟩ := hs.out
  omega
theorem fix_at {l : List Int} (h : allFix l = true) (j : Nat) (hj : j < l.length) : -2147483648 ≤ l.getD j 0 ∧ l.getD j 0 < 2147483648 := by
  simp only [allFix, Bool.not_eq_true'] at h
  have hc := anyOf_at (p := fun j => !fixB (l.getD j 0)) h j hj
  simp only [Bool.not_eq_false', fixB, Bool.and_eq_true, decide_eq_true_eq] at hc
  omega
theorem fix_ranges4 {s d f : Int} {l3 : List ChR} {l4 l5 l6 l7 : List Int} {l8 : List StR} {l9 l10 : List Int} (h : checkB s d f l3 l4 l5 l6 l7 l8 l9 l10 = true) : ∀ j, j < l4.length → -2147483648 ≤ l4.getD j 0 ∧ l4.getD j 0 < 2147483648 := by
  have ha : allFix l4 = true := by simp only [checkB, tableB, Bool.and_eq_true] at h; simp only [h]
  exact fix_at ha
theorem fix_ranges5 {s d f : Int} {l3 : List ChR} {l4 l5 l6 l7 : List Int} {l8 : List StR} {l9 l10 : List Int} (h : checkB s d f l3 l4 l5 l6 l7 l8 l9 l10 = true) : ∀ j, j < l5.length → -2147483648 ≤ l5.getD j 0 ∧ l5.getD j 0 < 2147483648 := by
  have ha : allFix l5 = true := by simp only [checkB, tableB, Bool.and_eq_true] at h; simp only [h]
  exact fix_at ha
theorem fix_ranges6 {s d f : Int} {l3 : List ChR} {l4 l5 l6 l7 : List Int} {l8 : List StR} {l9 l10 : List Int} (h : checkB s d f l3 l4 l5 l6 l7 l8 l9 l10 = true) : ∀ j, j < l6.length → -2147483648 ≤ l6.getD j 0 ∧ l6.getD j 0 < 2147483648 := by
  have ha : allFix l6 = true := by simp only [checkB, tableB, Bool.and_eq_true] at h; simp only [h]
  exact fix_at ha
theorem fix_ranges7 {s d f : Int} {l3 : List ChR} {l4 l5 l6 l7 : List Int} {l8 : List StR} {l9 l10 : List Int} (h : checkB s d f l3 l4 l5 l6 l7 l8 l9 l10 = true) : ∀ j, j < l7.length → -2147483648 ≤ l7.getD j 0 ∧ l7.getD j 0 < 2147483648 := by
  have ha : allFix l7 = true := by simp only [checkB, tableB, Bool.and_eq_true] at h; simp only [h]
  exact fix_at ha
theorem fix_ranges9 {s d f : Int} {l3 : List ChR} {l4 l5 l6 l7 : List Int} {l8 : List StR} {l9 l10 : List Int} (h : checkB s d f l3 l4 l5 l6 l7 l8 l9 l10 = true) : ∀ j, j < l9.length → -2147483648 ≤ l9.getD j 0 ∧ l9.getD j 0 < 2147483648 := by
  have ha : allFix l9 = true := by simp only [checkB, tableB, Bool.and_eq_true] at h; simp only [h]
  exact fix_at ha
theorem fix_ranges10 {s d f : Int} {l3 : List ChR} {l4 l5 l6 l7 : List Int} {l8 : List StR} {l9 l10 : List Int} (h : checkB s d f l3 l4 l5 l6 l7 l8 l9 l10 = true) : ∀ j, j < l10.length → -2147483648 ≤ l10.getD j 0 ∧ l10.getD j 0 < 2147483648 := by
  have ha : allFix l10 = true := by simp only [checkB, tableB, Bool.and_eq_true] at h; simp only [h]
  exact fix_at ha

set_option maxHeartbeats 8000000 in
set_option maxRecDepth 100000 in
theorem write_yes (s d f : Int) (A3 A4 A5 A6 A7 A8 A9 A10 : Option Addr) (c3 c4 c5 c6 c7 c8 c9 c10 : Nat) (l3 : List ChR) (l4 l5 l6 l7 : List Int) (l8 : List StR) (l9 l10 : List Int) (w : World) (h3 : kChar.C w A3 l3.length l3) (h4 : (Kd.int .i64).C w A4 l4.length l4) (h5 : (Kd.int .i64).C w A5 l5.length l5) (h6 : (Kd.int .i64).C w A6 l6.length l6) (h7 : (Kd.int .i64).C w A7 l7.length l7) (h8 : kStep.C w A8 l8.length l8) (h9 : (Kd.int .i64).C w A9 l9.length l9) (h10 : (Kd.int .i64).C w A10 l10.length l10) (hk : checkB s d f l3 l4 l5 l6 l7 l8 l9 l10 = true) :
    Calls Try.prog 9 #[.agg #[.int .i64 s, .int .i64 d, .int .i64 f, .slice A3 l3.length c3, .slice A4 l4.length c4, .slice A5 l5.length c5, .slice A6 l6.length c6, .slice A7 l7.length c7, .slice A8 l8.length c8, .slice A9 l9.length c9, .slice A10 l10.length c10]] w fun e w' => ∃ v, e = .returned (.tuple #[v, .int .i64 0]) ∧ (Kd.int .u8).R 5 w' w.heap.size (fun _ => True) v (fontBytes s d f l3 l4 l5 l6 l7 l8 l9 l10) ∧ Below w.heap.size w w' := by
  have HCK : ∀ W, Below w.heap.size w W → Calls Try.prog 12 #[.agg #[.int .i64 s, .int .i64 d, .int .i64 f, .slice A3 l3.length c3, .slice A4 l4.length c4, .slice A5 l5.length c5, .slice A6 l6.length c6, .slice A7 l7.length c7, .slice A8 l8.length c8, .slice A9 l9.length c9, .slice A10 l10.length c10]] W fun e w' => e = .returned (.bool (checkB s d f l3 l4 l5 l6 l7 l8 l9 l10)) ∧ Below W.heap.size W w' := fun W HB =>
    check_any s d f A3 A4 A5 A6 A7 A8 A9 A10 c3 c4 c5 c6 c7 c8 c9 c10 l3 l4 l5 l6 l7 l8 l9 l10 W (Kd.C_below h3 HB) (Kd.C_below h4 HB) (Kd.C_below h5 HB) (Kd.C_below h6 HB) (Kd.C_below h7 HB) (Kd.C_below h8 HB) (Kd.C_below h9 HB) (Kd.C_below h10 HB)
  rw [hk] at HCK
  have HCA := aside HCK
  have hbd : 0 ≤ s ∧ s < 4294967296 ∧ 1048576 ≤ d ∧ d < 2147483648 ∧ 0 ≤ f ∧ f < 256 ∧ 1 ≤ l3.length ∧ (l3.length : Int) ≤ 256 - f ∧ l8.length ≤ 256 ∧ l4.length ≤ 256 ∧ l5.length ≤ 16 ∧ l6.length ≤ 16 ∧ l7.length ≤ 64 ∧ l9.length ≤ 256 ∧ l10.length ≤ 30 := by
    have h := hk
    simp only [checkB, ofB, tableB, Bool.and_eq_true, decide_eq_true_eq] at h
    omega
  have HH := aside (⟨h3, h4, h5, h6, h7, h8, h9, h10⟩ : kChar.C w A3 l3.length l3 ∧ (Kd.int .i64).C w A4 l4.length l4 ∧ (Kd.int .i64).C w A5 l5.length l5 ∧ (Kd.int .i64).C w A6 l6.length l6 ∧ (Kd.int .i64).C w A7 l7.length l7 ∧ kStep.C w A8 l8.length l8 ∧ (Kd.int .i64).C w A9 l9.length l9 ∧ (Kd.int .i64).C w A10 l10.length l10)
  have HK := aside hk
  obtain ⟨b1, b2, b3, b4, b5, b6, b7, b8, b9, b10, b11, b12, b13, b14, b15⟩ := hbd
  clear h3 h4 h5 h6 h7 h8 h9 h10 HCK hk
  go_enter Try.func9, Try.ntmps9
  go_wp2_with fail
  obtain ⟨W, hW⟩ : ∃ W, W = w.alloc (.cells #[.int .i64 s, .int .i64 d, .int .i64 f, .slice A3 l3.length c3, .slice A4 l4.length c4, .slice A5 l5.length c5, .slice A6 l6.length c6, .slice A7 l7.length c7, .slice A8 l8.length c8, .slice A9 l9.length c9, .slice A10 l10.length c10] 26) := ⟨_, rfl⟩
  have HBW := aside (show Below w.heap.size w W by rw [hW]; exact below_alloc (Below.refl _ _) _)
  have HX := aside (show W.heap[w.heap.size]? = some (.cells #[.int .i64 s, .int .i64 d, .int .i64 f, .slice A3 l3.length c3, .slice A4 l4.length c4, .slice A5 l5.length c5, .slice A6 l6.length c6, .slice A7 l7.length c7, .slice A8 l8.length c8, .slice A9 l9.length c9, .slice A10 l10.length c10] 26 (0, 0)) by rw [hW]; exact blk_new _ _)
  rw [← hW]
  clear hW
  refine (HCA.out W HBW.out).mono ?_
  rintro e W2 ⟨rfl, hb'⟩
  replace HBW := aside (below_next HBW.out hb')
  replace HX := aside (blk_below HX.out hb')
  clear hb' HCA W
  obtain ⟨bx, hbx⟩ : ∃ bx, bx = w.heap.size := ⟨_, rfl⟩
  rw [← hbx] at HX ⊢
  have hx2 := aside hbx
  clear hbx
  have f0 := (blk_cell HX.out 0).trans (show _ = some (.int .i64 s) from rfl)
  have f1 := (blk_cell HX.out 1).trans (show _ = some (.int .i64 d) from rfl)
  have f2 := (blk_cell HX.out 2).trans (show _ = some (.int .i64 f) from rfl)
  have f3 := (blk_cell HX.out 3).trans (show _ = some (.slice A3 l3.length c3) from rfl)
  have f4 := (blk_cell HX.out 4).trans (show _ = some (.slice A4 l4.length c4) from rfl)
  have f5 := (blk_cell HX.out 5).trans (show _ = some (.slice A5 l5.length c5) from rfl)
  have f6 := (blk_cell HX.out 6).trans (show _ = some (.slice A6 l6.length c6) from rfl)
  have f7 := (blk_cell HX.out 7).trans (show _ = some (.slice A7 l7.length c7) from rfl)
  have f8 := (blk_cell HX.out 8).trans (show _ = some (.slice A8 l8.length c8) from rfl)
  have f9 := (blk_cell HX.out 9).trans (show _ = some (.slice A9 l9.length c9) from rfl)
  have f10 := (blk_cell HX.out 10).trans (show _ = some (.slice A10 l10.length c10) from rfl)
  have hbl := blk_lt HX.out
  go_wp2_with fail
  obtain ⟨W3, hW3⟩ : ∃ W3, W3 = (W2.alloc (.cells #[.slice none 0 0] 44)).alloc (.cells #[.int .i64 (8 + l3.length + l4.length + l5.length + l6.length + l7.length + l8.length + l9.length + l10.length), .int .i64 (2), .int .i64 (f), .int .i64 (f + l3.length - 1), .int .i64 (l4.length), .int .i64 (l5.length), .int .i64 (l6.length), .int .i64 (l7.length), .int .i64 (l8.length), .int .i64 (l9.length), .int .i64 (0), .int .i64 (l10.length)] 3) := ⟨_, rfl⟩
  have hs3 : W3.heap.size = W2.heap.size + 2 := by rw [hW3]; simp
  have HS := aside (show WSt w W3 bx W2.heap.size #[.int .i64 s, .int .i64 d, .int .i64 f, .slice A3 l3.length c3, .slice A4 l4.length c4, .slice A5 l5.length c5, .slice A6 l6.length c6, .slice A7 l7.length c7, .slice A8 l8.length c8, .slice A9 l9.length c9, .slice A10 l10.length c10] [] by
    refine ⟨?_, ?_, ?_, Nat.ne_of_lt hbl⟩
    · rw [hW3]; exact (HBW.out.alloc HBW.out.size _).alloc (by have := HBW.out.size; simp; omega) _
    · rw [hW3]; exact blk_alloc (blk_alloc HX.out _) _
    · rw [hW3]; exact ⟨_, blk_alloc (blk_new _ _) _, HBW.out.size, Kd.R_nil _ _ _ _ _⟩)
  have HL := aside (show W3.heap[W2.heap.size + 1]? = some (.cells #[.int .i64 (8 + l3.length + l4.length + l5.length + l6.length + l7.length + l8.length + l9.length + l10.length), .int .i64 (2), .int .i64 (f), .int .i64 (f + l3.length - 1), .int .i64 (l4.length), .int .i64 (l5.length), .int .i64 (l6.length), .int .i64 (l7.length), .int .i64 (l8.length), .int .i64 (l9.length), .int .i64 (0), .int .i64 (l10.length)] 3 (0, 0)) by
    rw [hW3]
    have h := blk_new (W2.alloc (.cells #[.slice none 0 0] 44)) (.cells #[.int .i64 (8 + l3.length + l4.length + l5.length + l6.length + l7.length + l8.length + l9.length + l10.length), .int .i64 (2), .int .i64 (f), .int .i64 (f + l3.length - 1), .int .i64 (l4.length), .int .i64 (l5.length), .int .i64 (l6.length), .int .i64 (l7.length), .int .i64 (l8.length), .int .i64 (l9.length), .int .i64 (0), .int .i64 (l10.length)] 3)
    simpa using h)
  rw [← hW3]
  clear hW3 hbl HX f0 f1 f2 f3 f4 f5 f6 f7 f8 f9 f10 hs3 HBW
  generalize hbo : W2.heap.size = bo at HS HL ⊢
  clear hbo W2
  go_loopg [84] 12 (fun gg s84 wr => ∃ kk : Nat, kk ≤ 12 ∧ 12 - kk ≤ gg ∧ s84 = .int .i64 kk ∧ Aside (WSt w wr bx bo #[.int .i64 s, .int .i64 d, .int .i64 f, .slice A3 l3.length c3, .slice A4 l4.length c4, .slice A5 l5.length c5, .slice A6 l6.length c6, .slice A7 l7.length c7, .slice A8 l8.length c8, .slice A9 l9.length c9, .slice A10 l10.length c10] (twos ((headOf f l3 l4 l5 l6 l7 l8 l9 l10).take kk))) ∧ Aside (W3.grownBy wr (some bo)))
  case atStart => exact ⟨0, by omega, by omega, rfl, by simpa [twos] using HS, ⟨rfl, rfl, rfl, Nat.le_refl _, fun _ _ _ => rfl⟩⟩
  case round =>
    obtain ⟨kk, hkk, hg, rfl, HSr, HG⟩ := hrel
    by_cases hlt : kk < 12
    · have hc0 : wr.cell? ⟨bo + 1, kk, none⟩ = some (.int .i64 ((headOf f l3 l4 l5 l6 l7 l8 l9 l10).getD kk 0)) := by
        rw [blk_cell (blk_grown HL.out HG.out (by simp)) kk]
        obtain rfl | rfl | rfl | rfl | rfl | rfl | rfl | rfl | rfl | rfl | rfl | rfl : kk = 0 ∨ kk = 1 ∨ kk = 2 ∨ kk = 3 ∨ kk = 4 ∨ kk = 5 ∨ kk = 6 ∨ kk = 7 ∨ kk = 8 ∨ kk = 9 ∨ kk = 10 ∨ kk = 11 := by omega
        all_goals rfl
      have hyr : 0 ≤ (headOf f l3 l4 l5 l6 l7 l8 l9 l10).getD kk 0 ∧ (headOf f l3 l4 l5 l6 l7 l8 l9 l10).getD kk 0 < 65536 := by
        obtain rfl | rfl | rfl | rfl | rfl | rfl | rfl | rfl | rfl | rfl | rfl | rfl : kk = 0 ∨ kk = 1 ∨ kk = 2 ∨ kk = 3 ∨ kk = 4 ∨ kk = 5 ∨ kk = 6 ∨ kk = 7 ∨ kk = 8 ∨ kk = 9 ∨ kk = 10 ∨ kk = 11 := by omega
        all_goals simp [headOf]
        all_goals omega
      have hsn := aside (show twos ((headOf f l3 l4 l5 l6 l7 l8 l9 l10).take kk) ++ be ((headOf f l3 l4 l5 l6 l7 l8 l9 l10).getD kk 0) 2 = twos ((headOf f l3 l4 l5 l6 l7 l8 l9 l10).take (kk + 1)) by
        have hl12 : kk < (headOf f l3 l4 l5 l6 l7 l8 l9 l10).length := hlt
        rw [List.take_succ_eq_append_getElem hl12, twos_snoc]
        simp [List.getD_eq_getElem?_getD, List.getElem?_eq_getElem hl12])
      have hlen : (twos ((headOf f l3 l4 l5 l6 l7 l8 l9 l10).take kk)).length ≤ 1000000 := by rw [twos_length, List.length_take]; omega
      generalize (headOf f l3 l4 l5 l6 l7 l8 l9 l10).getD kk 0 = y at hc0 hyr hsn
      generalize twos ((headOf f l3 l4 l5 l6 l7 l8 l9 l10).take kk) = L at hsn hlen HSr
      have HP := aside (oput_any 2 (.inl rfl) w.heap.size bo L y wr HSr.out.out hlen hyr.1 (by simpa using hyr.2))
      clear HL HS
      go_wp2_with (go_at_call 14; refine HP.out.mono ?_; rintro e w1 ⟨rfl, hO1, hG1⟩)
      go_roundg (12 - (kk + 1))
      case measure => omega
      case rel => exact ⟨kk + 1, by omega, by omega, by go_num, by rw [← hsn.out]; exact HSr.out.grown hO1 hG1, grown_trans HG.out hG1⟩
    · obtain rfl : kk = 12 := by omega
      have HSa := aside (show WSt w wr bx bo #[.int .i64 s, .int .i64 d, .int .i64 f, .slice A3 l3.length c3, .slice A4 l4.length c4, .slice A5 l5.length c5, .slice A6 l6.length c6, .slice A7 l7.length c7, .slice A8 l8.length c8, .slice A9 l9.length c9, .slice A10 l10.length c10] (twos (headOf f l3 l4 l5 l6 l7 l8 l9 l10)) from HSr.out)
      clear HSr HL HS HG hg hlt hkk
      have f0 := HSa.out.cell 0 (.int .i64 s) rfl
      go_wp2_with fail
      refine (oput_any 4 (.inr rfl) w.heap.size bo _ s wr HSa.out.out (by rw [twos_length]; simp [headOf]) b1 (by simpa using b2)).mono ?_
      rintro e w1 ⟨rfl, hO1, hG1⟩
      replace HSa := aside (HSa.out.grown hO1 hG1)
      clear hO1 hG1 f0
      have f1 := HSa.out.cell 1 (.int .i64 d) rfl
      go_wp2_with fail
      refine (oput_any 4 (.inr rfl) w.heap.size bo _ d w1 HSa.out.out (by simp [twos_length, be_length, headOf]) (by omega) (by simp; omega)).mono ?_
      rintro e w2 ⟨rfl, hO1, hG1⟩
      replace HSa := aside (HSa.out.grown hO1 hG1)
      clear hO1 hG1 f1
      have f3 := HSa.out.cell 3 (.slice A3 l3.length c3) rfl
      generalize hL0 : twos (headOf f l3 l4 l5 l6 l7 l8 l9 l10) ++ be s 4 ++ be d 4 = L0 at HSa
      have hL0A := aside hL0
      have hl0 : L0.length = 32 := by rw [← hL0]; simp [twos_length, be_length, headOf]
      have hlA := aside hl0
      clear hL0 hl0
      go_wp2_with fail
      go_loopg [103] l3.length (fun gg s103 wr => ∃ kk : Nat, kk ≤ l3.length ∧ l3.length - kk ≤ gg ∧ s103 = .int .i64 kk ∧ Aside (WSt w wr bx bo #[.int .i64 s, .int .i64 d, .int .i64 f, .slice A3 l3.length c3, .slice A4 l4.length c4, .slice A5 l5.length c5, .slice A6 l6.length c6, .slice A7 l7.length c7, .slice A8 l8.length c8, .slice A9 l9.length c9, .slice A10 l10.length c10] (L0 ++ charsBytes (l3.take kk))))
      case atStart => exact ⟨0, by omega, by omega, rfl, by simpa [charsBytes] using HSa⟩
      case round =>
        obtain ⟨kk, hkk, hg, rfl, HSr⟩ := hrel
        by_cases hlt : kk < l3.length
        · obtain ⟨ad, hA, hF⟩ := char_cells (Kd.C_below HH.out.1 HSr.out.below) (by omega)
          subst hA
          have hrg := aside (char_ranges HK.out kk hlt)
          have hsn := aside (charsBytes_snoc l3 kk hlt)
          have hlen := charsBytes_length (l3.take kk)
          rw [List.length_take] at hlen
          have hqq := hF kk hlt
          generalize l3.getD kk zCh = ch at hqq hrg hsn
          obtain ⟨cw, chh, cd, ci, ct, cr⟩ := ch
          obtain ⟨r1, r2, r3, r4, r5, r6, r7, r8, r9, r10, r11, r12⟩ := hrg.out
          obtain ⟨q0, q1, q2, q3, q4, q5⟩ := hqq
          dsimp only at q0 q1 q2 q3 q4 q5 r1 r2 r3 r4 r5 r6 r7 r8 r9 r10 r11 r12
          rw [add_field _ _ 1 (by omega)] at q1
          rw [add_field _ _ 2 (by omega)] at q2
          rw [add_field _ _ 3 (by omega)] at q3
          rw [add_field _ _ 4 (by omega)] at q4
          rw [add_field _ _ 5 (by omega)] at q5
          have q0 : wr.cell? (ad.add (kk * 6)) = some (.int .i64 cw) := q0
          clear hF hrg
          generalize hLL : L0 ++ charsBytes (l3.take kk) = LL at HSr
          have hLLA := aside hLL
          have hLn : LL.length ≤ 100000 := by rw [← hLL, List.length_append, hlA.out, hlen]; omega
          clear hLL hlen
          obtain ⟨v, hv, hb, hR⟩ := HSr.out.out
          obtain ⟨A1, c1, hve, hc1, hC1⟩ := Kd.R_reads hR
          subst hve
          obtain ⟨hcell, hfr⟩ := outis_cell hv
          have hbl : bo < wr.heap.size := blk_lt hv
          have HRR := aside hR
          have HVV := aside hv
          clear hR hv hC1
          have hltz : (kk : Int) < (l3.length : Int) := by omega
          go_wp2_with fail
          obtain ⟨W4, hW4⟩ : ∃ W4, W4 = wr.alloc (.cells #[.int .i64 cw, .int .i64 chh, .int .i64 cd, .int .i64 ci, .int .i64 ct, .int .i64 cr] 40) := ⟨_, rfl⟩
          have HB4 := aside (show Below wr.heap.size wr W4 by rw [hW4]; exact below_alloc (Below.refl _ _) _)
          have HN := aside (show W4.heap[wr.heap.size]? = some (.cells #[.int .i64 cw, .int .i64 chh, .int .i64 cd, .int .i64 ci, .int .i64 ct, .int .i64 cr] 40 (0, 0)) by rw [hW4]; exact blk_new _ _)
          rw [← hW4]
          clear hW4 q0 q1 q2 q3 q4 q5
          replace hcell := (HB4.out.cell (p := ⟨bo, 0, none⟩) hbl).trans hcell
          replace hfr := (HB4.out.frozen (p := ⟨bo, 0, none⟩) hbl).trans hfr
          have hsz := blk_lt HN.out
          generalize hnb : wr.heap.size = nb at HB4 HN hbl hsz ⊢
          have e0 := (blk_cell HN.out 0).trans (show _ = some (.int .i64 cw) from rfl)
          have e1 := (blk_cell HN.out 1).trans (show _ = some (.int .i64 chh) from rfl)
          have e2 := (blk_cell HN.out 2).trans (show _ = some (.int .i64 cd) from rfl)
          have e3 := (blk_cell HN.out 3).trans (show _ = some (.int .i64 ci) from rfl)
          have e4 := (blk_cell HN.out 4).trans (show _ = some (.int .i64 ct) from rfl)
          have e5 := (blk_cell HN.out 5).trans (show _ = some (.int .i64 cr) from rfl)
          have hnbA := aside hnb
          clear hnb
          have hbs : bo < W4.heap.size := by omega
          have HR4 := aside (Kd.R_below HRR.out (by rw [hnbA.out]; exact HB4.out))
          have hbo4 := (HB4.out.block bo hbl).trans HVV.out
          have hbx4 := (HB4.out.block bx (by rw [← hnbA.out]; exact HSr.out.lt.1)).trans HSr.out.fx
          have hne1 := Kd.R_ne HR4.out hbo4 (by decide)
          have hne2 := Kd.R_ne HR4.out HN.out (by decide)
          have hne3 := Kd.R_ne HR4.out hbx4 (by decide)
          have HNE := aside (And.intro hne1 (And.intro hne2 hne3))
          have HX4 := aside (And.intro hbo4 hbx4)
          have HB5 := aside (HSr.out.below.trans ⟨HB4.out.os, HB4.out.tape, HB4.out.output, HB4.out.size, fun i hi => HB4.out.block i (by have := HSr.out.below.size; omega)⟩)
          clear hne1 hne2 hne3 hbo4 hbx4
          have hy := aside (show [IntKind.u8.wrap cw, IntKind.u8.wrap (bits .or .i64 (IntKind.i64.wrap (chh * 16)) cd), IntKind.u8.wrap (bits .or .i64 (IntKind.i64.wrap (ci * 4)) ct), IntKind.u8.wrap cr] = charBytes ⟨cw, chh, cd, ci, ct, cr⟩ by
            rw [wr8 cw r1 r2, or4 chh cd r3 r4 r5 r6, or2 ci ct r7 r8 r9 (by omega), wr8 cr r11 r12]; rfl)
          have hbn : ¬ bo = nb := by omega
          have hbn' : ¬ nb = bo := by omega
          refine wp_region_noPanic ?_
          refine wp_region_held_drew (S := (fun w' => w'.cell? ⟨nb, 0, none⟩ = some (.int .i64 cw) ∧ w'.cell? ⟨nb, 1, none⟩ = some (.int .i64 chh) ∧ w'.cell? ⟨nb, 2, none⟩ = some (.int .i64 cd) ∧ w'.cell? ⟨nb, 3, none⟩ = some (.int .i64 ci) ∧ w'.cell? ⟨nb, 4, none⟩ = some (.int .i64 ct) ∧ w'.cell? ⟨nb, 5, none⟩ = some (.int .i64 cr))) (by kernel_rfl) ?_ (fun hHeld => ?_)
          · exact ⟨e0, e1, e2, e3, e4, e5⟩
          refine wpAnyH_take (i := 0) (oi := { dst := some 107, op := Op.move (Operand.tmp 5), type := 42, pos := "tfm.go:78", after := #[], guard := none }) (v := ?_) rfl (by kernel_rfl) (by kernel_rfl) (by kernel_rfl) (fun _ _ _ h => h) (Or.inl ⟨by rfl, ?_⟩) (by assumption) ?_
          rotate_left
          · intro w hSw; (try dsimp only at hSw); go_simp; (try with_reducible rfl)
          try simp only [Act.put, List.setIfInBounds_toArray, List.set_cons_zero, List.set_cons_succ]
          refine wpAnyH_take (i := 1) (oi := { dst := some 108, op := Op.move (Operand.tmp 5), type := 42, pos := "tfm.go:78", after := #[], guard := none }) (v := ?_) rfl (by kernel_rfl) (by kernel_rfl) (by kernel_rfl) (fun _ _ _ h => h) (Or.inl ⟨by rfl, ?_⟩) (by assumption) ?_
          rotate_left
          · intro w hSw; (try dsimp only at hSw); go_simp; (try with_reducible rfl)
          try simp only [Act.put, List.setIfInBounds_toArray, List.set_cons_zero, List.set_cons_succ]
          refine wpAnyH_take (i := 2) (oi := { dst := some 109, op := Op.nilCheck (Operand.tmp 108), type := 0, pos := "tfm.go:78", after := #[{ on := 1, ground := Ground.data }], guard := none }) (v := ?_) rfl (by kernel_rfl) (by kernel_rfl) (by kernel_rfl) (fun _ _ _ h => h) (Or.inl ⟨by rfl, ?_⟩) (by assumption) ?_
          rotate_left
          · intro w hSw; (try dsimp only at hSw); go_simp; (try with_reducible rfl)
          try simp only [Act.put, List.setIfInBounds_toArray, List.set_cons_zero, List.set_cons_succ]
          refine wpAnyH_take (i := 3) (oi := { dst := some 110, op := Op.fieldAddr 44 (Operand.tmp 109) 0, type := 0, pos := "tfm.go:78", after := #[{ on := 2, ground := Ground.data }], guard := none }) (v := ?_) rfl (by kernel_rfl) (by kernel_rfl) (by kernel_rfl) (fun _ _ _ h => h) (Or.inl ⟨by rfl, ?_⟩) (by assumption) ?_
          rotate_left
          · intro w hSw; (try dsimp only at hSw); go_simp; (try with_reducible rfl)
          try simp only [Act.put, List.setIfInBounds_toArray, List.set_cons_zero, List.set_cons_succ]
          refine wpAnyH_take (i := 5) (oi := { dst := some 112, op := Op.fieldAddr 40 (Operand.tmp 9) 0, type := 0, pos := "tfm.go:78", after := #[], guard := none }) (v := ?_) rfl (by kernel_rfl) (by kernel_rfl) (by kernel_rfl) (fun _ _ _ h => h) (Or.inl ⟨by rfl, ?_⟩) (by assumption) ?_
          rotate_left
          · intro w hSw; (try dsimp only at hSw); go_simp; (try with_reducible rfl)
          try simp only [Act.put, List.setIfInBounds_toArray, List.set_cons_zero, List.set_cons_succ]
          refine wpAnyH_take (i := 6) (oi := { dst := some 113, op := Op.load 3 (Operand.tmp 112), type := 3, pos := "tfm.go:78", after := #[{ on := 5, ground := Ground.data }], guard := none }) (v := ?_) rfl (by kernel_rfl) (by kernel_rfl) (by kernel_rfl) (fun _ _ _ h => h) (Or.inl ⟨by rfl, ?_⟩) (by assumption) ?_
          rotate_left
          · intro w hSw; (try dsimp only at hSw); go_simp; (try with_reducible rfl)
          try simp only [Act.put, List.setIfInBounds_toArray, List.set_cons_zero, List.set_cons_succ]
          refine wpAnyH_take (i := 7) (oi := { dst := some 114, op := Op.convert 3 5 (Operand.tmp 113), type := 5, pos := "tfm.go:78", after := #[{ on := 6, ground := Ground.data }], guard := none }) (v := ?_) rfl (by kernel_rfl) (by kernel_rfl) (by kernel_rfl) (fun _ _ _ h => h) (Or.inl ⟨by rfl, ?_⟩) (by assumption) ?_
          rotate_left
          · intro w hSw; (try dsimp only at hSw); go_simp; (try with_reducible rfl)
          try simp only [Act.put, List.setIfInBounds_toArray, List.set_cons_zero, List.set_cons_succ]
          refine wpAnyH_take (i := 8) (oi := { dst := some 115, op := Op.fieldAddr 40 (Operand.tmp 9) 1, type := 0, pos := "tfm.go:78", after := #[], guard := none }) (v := ?_) rfl (by kernel_rfl) (by kernel_rfl) (by kernel_rfl) (fun _ _ _ h => h) (Or.inl ⟨by rfl, ?_⟩) (by assumption) ?_
          rotate_left
          · intro w hSw; (try dsimp only at hSw); go_simp; (try with_reducible rfl)
          try simp only [Act.put, List.setIfInBounds_toArray, List.set_cons_zero, List.set_cons_succ]
          refine wpAnyH_take (i := 9) (oi := { dst := some 116, op := Op.load 3 (Operand.tmp 115), type := 3, pos := "tfm.go:78", after := #[{ on := 8, ground := Ground.data }], guard := none }) (v := ?_) rfl (by kernel_rfl) (by kernel_rfl) (by kernel_rfl) (fun _ _ _ h => h) (Or.inl ⟨by rfl, ?_⟩) (by assumption) ?_
          rotate_left
          · intro w hSw; (try dsimp only at hSw); go_simp; (try with_reducible rfl)
          try simp only [Act.put, List.setIfInBounds_toArray, List.set_cons_zero, List.set_cons_succ]
          refine wpAnyH_take (i := 10) (oi := { dst := some 117, op := Op.binOp BinOp.shl 3 (Operand.tmp 116) (Operand.const (Value.int IntKind.u64 4)) 46, type := 3, pos := "tfm.go:78", after := #[{ on := 9, ground := Ground.data }], guard := none }) (v := ?_) rfl (by kernel_rfl) (by kernel_rfl) (by kernel_rfl) (fun _ _ _ h => h) (Or.inl ⟨by rfl, ?_⟩) (by assumption) ?_
          rotate_left
          · intro w hSw; (try dsimp only at hSw); go_simp; (try with_reducible rfl)
          try simp only [Act.put, List.setIfInBounds_toArray, List.set_cons_zero, List.set_cons_succ]
          refine wpAnyH_take (i := 11) (oi := { dst := some 118, op := Op.fieldAddr 40 (Operand.tmp 9) 2, type := 0, pos := "tfm.go:78", after := #[], guard := none }) (v := ?_) rfl (by kernel_rfl) (by kernel_rfl) (by kernel_rfl) (fun _ _ _ h => h) (Or.inl ⟨by rfl, ?_⟩) (by assumption) ?_
          rotate_left
          · intro w hSw; (try dsimp only at hSw); go_simp; (try with_reducible rfl)
          try simp only [Act.put, List.setIfInBounds_toArray, List.set_cons_zero, List.set_cons_succ]
          refine wpAnyH_take (i := 12) (oi := { dst := some 119, op := Op.load 3 (Operand.tmp 118), type := 3, pos := "tfm.go:78", after := #[{ on := 11, ground := Ground.data }], guard := none }) (v := ?_) rfl (by kernel_rfl) (by kernel_rfl) (by kernel_rfl) (fun _ _ _ h => h) (Or.inl ⟨by rfl, ?_⟩) (by assumption) ?_
          rotate_left
          · intro w hSw; (try dsimp only at hSw); go_simp; (try with_reducible rfl)
          try simp only [Act.put, List.setIfInBounds_toArray, List.set_cons_zero, List.set_cons_succ]
          refine wpAnyH_take (i := 13) (oi := { dst := some 120, op := Op.binOp BinOp.or 3 (Operand.tmp 117) (Operand.tmp 119) 3, type := 3, pos := "tfm.go:78", after := #[{ on := 10, ground := Ground.data }, { on := 12, ground := Ground.data }], guard := none }) (v := ?_) rfl (by kernel_rfl) (by kernel_rfl) (by kernel_rfl) (fun _ _ _ h => h) (Or.inl ⟨by rfl, ?_⟩) (by assumption) ?_
          rotate_left
          · intro w hSw; (try dsimp only at hSw); go_simp; (try with_reducible rfl)
          try simp only [Act.put, List.setIfInBounds_toArray, List.set_cons_zero, List.set_cons_succ]
          refine wpAnyH_take (i := 14) (oi := { dst := some 121, op := Op.convert 3 5 (Operand.tmp 120), type := 5, pos := "tfm.go:78", after := #[{ on := 13, ground := Ground.data }], guard := none }) (v := ?_) rfl (by kernel_rfl) (by kernel_rfl) (by kernel_rfl) (fun _ _ _ h => h) (Or.inl ⟨by rfl, ?_⟩) (by assumption) ?_
          rotate_left
          · intro w hSw; (try dsimp only at hSw); go_simp; (try with_reducible rfl)
          try simp only [Act.put, List.setIfInBounds_toArray, List.set_cons_zero, List.set_cons_succ]
          refine wpAnyH_take (i := 15) (oi := { dst := some 122, op := Op.fieldAddr 40 (Operand.tmp 9) 3, type := 0, pos := "tfm.go:78", after := #[], guard := none }) (v := ?_) rfl (by kernel_rfl) (by kernel_rfl) (by kernel_rfl) (fun _ _ _ h => h) (Or.inl ⟨by rfl, ?_⟩) (by assumption) ?_
          rotate_left
          · intro w hSw; (try dsimp only at hSw); go_simp; (try with_reducible rfl)
          try simp only [Act.put, List.setIfInBounds_toArray, List.set_cons_zero, List.set_cons_succ]
          refine wpAnyH_take (i := 16) (oi := { dst := some 123, op := Op.load 3 (Operand.tmp 122), type := 3, pos := "tfm.go:78", after := #[{ on := 15, ground := Ground.data }], guard := none }) (v := ?_) rfl (by kernel_rfl) (by kernel_rfl) (by kernel_rfl) (fun _ _ _ h => h) (Or.inl ⟨by rfl, ?_⟩) (by assumption) ?_
          rotate_left
          · intro w hSw; (try dsimp only at hSw); go_simp; (try with_reducible rfl)
          try simp only [Act.put, List.setIfInBounds_toArray, List.set_cons_zero, List.set_cons_succ]
          refine wpAnyH_take (i := 17) (oi := { dst := some 124, op := Op.binOp BinOp.shl 3 (Operand.tmp 123) (Operand.const (Value.int IntKind.u64 2)) 46, type := 3, pos := "tfm.go:78", after := #[{ on := 16, ground := Ground.data }], guard := none }) (v := ?_) rfl (by kernel_rfl) (by kernel_rfl) (by kernel_rfl) (fun _ _ _ h => h) (Or.inl ⟨by rfl, ?_⟩) (by assumption) ?_
          rotate_left
          · intro w hSw; (try dsimp only at hSw); go_simp; (try with_reducible rfl)
          try simp only [Act.put, List.setIfInBounds_toArray, List.set_cons_zero, List.set_cons_succ]
          refine wpAnyH_take (i := 18) (oi := { dst := some 125, op := Op.fieldAddr 40 (Operand.tmp 9) 4, type := 0, pos := "tfm.go:78", after := #[], guard := none }) (v := ?_) rfl (by kernel_rfl) (by kernel_rfl) (by kernel_rfl) (fun _ _ _ h => h) (Or.inl ⟨by rfl, ?_⟩) (by assumption) ?_
          rotate_left
          · intro w hSw; (try dsimp only at hSw); go_simp; (try with_reducible rfl)
          try simp only [Act.put, List.setIfInBounds_toArray, List.set_cons_zero, List.set_cons_succ]
          refine wpAnyH_take (i := 19) (oi := { dst := some 126, op := Op.load 3 (Operand.tmp 125), type := 3, pos := "tfm.go:78", after := #[{ on := 18, ground := Ground.data }], guard := none }) (v := ?_) rfl (by kernel_rfl) (by kernel_rfl) (by kernel_rfl) (fun _ _ _ h => h) (Or.inl ⟨by rfl, ?_⟩) (by assumption) ?_
          rotate_left
          · intro w hSw; (try dsimp only at hSw); go_simp; (try with_reducible rfl)
          try simp only [Act.put, List.setIfInBounds_toArray, List.set_cons_zero, List.set_cons_succ]
          refine wpAnyH_take (i := 20) (oi := { dst := some 127, op := Op.binOp BinOp.or 3 (Operand.tmp 124) (Operand.tmp 126) 3, type := 3, pos := "tfm.go:78", after := #[{ on := 17, ground := Ground.data }, { on := 19, ground := Ground.data }], guard := none }) (v := ?_) rfl (by kernel_rfl) (by kernel_rfl) (by kernel_rfl) (fun _ _ _ h => h) (Or.inl ⟨by rfl, ?_⟩) (by assumption) ?_
          rotate_left
          · intro w hSw; (try dsimp only at hSw); go_simp; (try with_reducible rfl)
          try simp only [Act.put, List.setIfInBounds_toArray, List.set_cons_zero, List.set_cons_succ]
          refine wpAnyH_take (i := 21) (oi := { dst := some 128, op := Op.convert 3 5 (Operand.tmp 127), type := 5, pos := "tfm.go:78", after := #[{ on := 20, ground := Ground.data }], guard := none }) (v := ?_) rfl (by kernel_rfl) (by kernel_rfl) (by kernel_rfl) (fun _ _ _ h => h) (Or.inl ⟨by rfl, ?_⟩) (by assumption) ?_
          rotate_left
          · intro w hSw; (try dsimp only at hSw); go_simp; (try with_reducible rfl)
          try simp only [Act.put, List.setIfInBounds_toArray, List.set_cons_zero, List.set_cons_succ]
          refine wpAnyH_take (i := 22) (oi := { dst := some 129, op := Op.fieldAddr 40 (Operand.tmp 9) 5, type := 0, pos := "tfm.go:78", after := #[], guard := none }) (v := ?_) rfl (by kernel_rfl) (by kernel_rfl) (by kernel_rfl) (fun _ _ _ h => h) (Or.inl ⟨by rfl, ?_⟩) (by assumption) ?_
          rotate_left
          · intro w hSw; (try dsimp only at hSw); go_simp; (try with_reducible rfl)
          try simp only [Act.put, List.setIfInBounds_toArray, List.set_cons_zero, List.set_cons_succ]
          refine wpAnyH_take (i := 23) (oi := { dst := some 130, op := Op.load 3 (Operand.tmp 129), type := 3, pos := "tfm.go:78", after := #[{ on := 22, ground := Ground.data }], guard := none }) (v := ?_) rfl (by kernel_rfl) (by kernel_rfl) (by kernel_rfl) (fun _ _ _ h => h) (Or.inl ⟨by rfl, ?_⟩) (by assumption) ?_
          rotate_left
          · intro w hSw; (try dsimp only at hSw); go_simp; (try with_reducible rfl)
          try simp only [Act.put, List.setIfInBounds_toArray, List.set_cons_zero, List.set_cons_succ]
          refine wpAnyH_take (i := 24) (oi := { dst := some 131, op := Op.convert 3 5 (Operand.tmp 130), type := 5, pos := "tfm.go:78", after := #[{ on := 23, ground := Ground.data }], guard := none }) (v := ?_) rfl (by kernel_rfl) (by kernel_rfl) (by kernel_rfl) (fun _ _ _ h => h) (Or.inl ⟨by rfl, ?_⟩) (by assumption) ?_
          rotate_left
          · intro w hSw; (try dsimp only at hSw); go_simp; (try with_reducible rfl)
          try simp only [Act.put, List.setIfInBounds_toArray, List.set_cons_zero, List.set_cons_succ]
          refine wpAnyH_ready (rs := [4, 25]) (by kernel_rfl) (by simp) ?_
          refine AllReadyH.cons (o := { dst := some 111, op := Op.load 27 (Operand.tmp 110), type := 27, pos := "tfm.go:78", after := #[{ on := 3, ground := Ground.data }], guard := none }) rfl (fun K hK => ?_) ?_
          · go_simp
            refine hK.out _ _ ?_ (fun hHeld => ?_)
            · go_keep
            clear hK K
            try simp only [Act.put, List.setIfInBounds_toArray, List.set_cons_zero, List.set_cons_succ]
            refine wpAnyH_ready (rs := [25]) (by kernel_rfl) (by simp) ?_
            refine AllReadyH.cons (o := { dst := some 132, op := Op.buildSlice 27 4 #[(0, Operand.tmp 114), (1, Operand.tmp 121), (2, Operand.tmp 128), (3, Operand.tmp 131)], type := 27, pos := "tfm.go:78", after := #[{ on := 7, ground := Ground.data }, { on := 14, ground := Ground.data }, { on := 21, ground := Ground.data }, { on := 24, ground := Ground.data }], guard := none }) rfl (fun K hK => ?_) AllReadyH.nil
            go_simp
            refine hK.out _ _ ?_ (fun hHeld => ?_)
            · go_keep
            clear hK K
            try simp only [Act.put, List.setIfInBounds_toArray, List.set_cons_zero, List.set_cons_succ]
            refine wpAnyH_ready (rs := [26]) (by kernel_rfl) (by simp) ?_
            refine AllReadyH.cons (o := { dst := some 133, op := Op.call { callee := Callee.builtin Builtin.append, args := #[Operand.tmp 111, Operand.tmp 132], argTypes := #[27, 27] }, type := 27, pos := "tfm.go:78", after := #[{ on := 4, ground := Ground.data }, { on := 25, ground := Ground.data }], guard := none }) rfl (fun K hK => ?_) AllReadyH.nil
            refine Kd.R_append_rows_step (Kd.int .u8) (w0 := w) w.heap.size (by rfl) (.tmp 111) (.tmp 132) 27 5 (.int .u8 0) 1 rfl Try.underlying27 info_u8 rfl (by decide) (by omega) (.slice A1 LL.length c1) LL [IntKind.u8.wrap cw, IntKind.u8.wrap (bits .or .i64 (IntKind.i64.wrap (chh * 16)) cd), IntKind.u8.wrap (bits .or .i64 (IntKind.i64.wrap (ci * 4)) ct), IntKind.u8.wrap cr] (some ⟨W4.heap.size, 0, none⟩) 4 4 (fun k => k ≠ bo) (fun _ => False) (by rfl) (by rfl) (Kd.R_below HR4.out (below_drew (below_alloc (Below.refl _ _) _))) (blk_C (W := (W4.alloc _).drew) _ (blk_drew (blk_new W4 _)) (by show 4 ≤ 9223372036854775807; omega)) (fun _ _ h => h) (fun _ h => h.elim) (fun k hk => by simp at hk; omega) (HB5.out.trans ((Below.refl _ _).alloc (by have := HB5.out.size; omega) _).drew) (by have := HB5.out.size; simp; omega) (by simp; omega) ?_; intro v1 w1 hR1 hB1 hG1 hat1; obtain ⟨A2, c2, hv2⟩ := Kd.R_slice hR1; subst hv2; have hb1 := aside (blk_grown (blk_drew (blk_alloc HX4.out.1 _)) hG1 HNE.out.1); have hf1 := blk_frozen hb1.out 0; have hn1 := aside (blk_grown (blk_drew (blk_alloc HN.out _)) hG1 HNE.out.2.1); have hk1 := (blk_cell hb1.out 0).trans (show _ = some (.slice A1 LL.length c1) from rfl); have g0 := (blk_cell hn1.out 0).trans (show _ = some (.int .i64 cw) from rfl); have g1 := (blk_cell hn1.out 1).trans (show _ = some (.int .i64 chh) from rfl); have g2 := (blk_cell hn1.out 2).trans (show _ = some (.int .i64 cd) from rfl); have g3 := (blk_cell hn1.out 3).trans (show _ = some (.int .i64 ci) from rfl); have g4 := (blk_cell hn1.out 4).trans (show _ = some (.int .i64 ct) from rfl); have g5 := (blk_cell hn1.out 5).trans (show _ = some (.int .i64 cr) from rfl); have hx1 := aside (blk_grown (blk_drew (blk_alloc HX4.out.2 _)) hG1 HNE.out.2.2)
            refine hK.out _ _ ?_ (fun hHeld => ?_)
            · exact ⟨g0, g1, g2, g3, g4, g5⟩
            clear hK K
            try simp only [Act.put, List.setIfInBounds_toArray, List.set_cons_zero, List.set_cons_succ]
            refine wpAnyH_take (i := 27) (oi := { dst := some 134, op := Op.nilCheck (Operand.tmp 107), type := 0, pos := "tfm.go:78", after := #[{ on := 0, ground := Ground.data }, { on := 0, ground := Ground.phase }, { on := 1, ground := Ground.phase }, { on := 2, ground := Ground.phase }, { on := 3, ground := Ground.phase }, { on := 4, ground := Ground.phase }, { on := 5, ground := Ground.phase }, { on := 6, ground := Ground.phase }, { on := 7, ground := Ground.phase }, { on := 8, ground := Ground.phase }, { on := 9, ground := Ground.phase }, { on := 10, ground := Ground.phase }, { on := 11, ground := Ground.phase }, { on := 12, ground := Ground.phase }, { on := 13, ground := Ground.phase }, { on := 14, ground := Ground.phase }, { on := 15, ground := Ground.phase }, { on := 16, ground := Ground.phase }, { on := 17, ground := Ground.phase }, { on := 18, ground := Ground.phase }, { on := 19, ground := Ground.phase }, { on := 20, ground := Ground.phase }, { on := 21, ground := Ground.phase }, { on := 22, ground := Ground.phase }, { on := 23, ground := Ground.phase }, { on := 24, ground := Ground.phase }, { on := 25, ground := Ground.phase }, { on := 26, ground := Ground.phase }], guard := none }) (v := ?_) rfl (by kernel_rfl) (by kernel_rfl) (by kernel_rfl) (fun _ _ _ h => h) (Or.inl ⟨by rfl, ?_⟩) (by assumption) ?_
            rotate_left
            · intro w hSw; (try dsimp only at hSw); go_simp; (try with_reducible rfl)
            try simp only [Act.put, List.setIfInBounds_toArray, List.set_cons_zero, List.set_cons_succ]
            refine wpAnyH_take (i := 28) (oi := { dst := some 135, op := Op.fieldAddr 44 (Operand.tmp 134) 0, type := 0, pos := "tfm.go:78", after := #[{ on := 27, ground := Ground.data }, { on := 0, ground := Ground.phase }, { on := 1, ground := Ground.phase }, { on := 2, ground := Ground.phase }, { on := 3, ground := Ground.phase }, { on := 4, ground := Ground.phase }, { on := 5, ground := Ground.phase }, { on := 6, ground := Ground.phase }, { on := 7, ground := Ground.phase }, { on := 8, ground := Ground.phase }, { on := 9, ground := Ground.phase }, { on := 10, ground := Ground.phase }, { on := 11, ground := Ground.phase }, { on := 12, ground := Ground.phase }, { on := 13, ground := Ground.phase }, { on := 14, ground := Ground.phase }, { on := 15, ground := Ground.phase }, { on := 16, ground := Ground.phase }, { on := 17, ground := Ground.phase }, { on := 18, ground := Ground.phase }, { on := 19, ground := Ground.phase }, { on := 20, ground := Ground.phase }, { on := 21, ground := Ground.phase }, { on := 22, ground := Ground.phase }, { on := 23, ground := Ground.phase }, { on := 24, ground := Ground.phase }, { on := 25, ground := Ground.phase }, { on := 26, ground := Ground.phase }], guard := none }) (v := ?_) rfl (by kernel_rfl) (by kernel_rfl) (by kernel_rfl) (fun _ _ _ h => h) (Or.inl ⟨by rfl, ?_⟩) (by assumption) ?_
            rotate_left
            · intro w hSw; (try dsimp only at hSw); go_simp; (try with_reducible rfl)
            try simp only [Act.put, List.setIfInBounds_toArray, List.set_cons_zero, List.set_cons_succ]
            refine wpAnyH_ready (rs := [29]) (by kernel_rfl) (by simp) ?_
            refine AllReadyH.cons (o := { dst := none, op := Op.store 27 (Operand.tmp 135) (Operand.tmp 133), type := 0, pos := "tfm.go:78", after := #[{ on := 28, ground := Ground.data }, { on := 26, ground := Ground.data }, { on := 26, ground := Ground.chain }, { on := 0, ground := Ground.phase }, { on := 1, ground := Ground.phase }, { on := 2, ground := Ground.phase }, { on := 3, ground := Ground.phase }, { on := 4, ground := Ground.phase }, { on := 5, ground := Ground.phase }, { on := 6, ground := Ground.phase }, { on := 7, ground := Ground.phase }, { on := 8, ground := Ground.phase }, { on := 9, ground := Ground.phase }, { on := 10, ground := Ground.phase }, { on := 11, ground := Ground.phase }, { on := 12, ground := Ground.phase }, { on := 13, ground := Ground.phase }, { on := 14, ground := Ground.phase }, { on := 15, ground := Ground.phase }, { on := 16, ground := Ground.phase }, { on := 17, ground := Ground.phase }, { on := 18, ground := Ground.phase }, { on := 19, ground := Ground.phase }, { on := 20, ground := Ground.phase }, { on := 21, ground := Ground.phase }, { on := 22, ground := Ground.phase }, { on := 23, ground := Ground.phase }, { on := 24, ground := Ground.phase }, { on := 25, ground := Ground.phase }, { on := 26, ground := Ground.phase }], guard := none }) rfl (fun K hK => ?_) AllReadyH.nil
            go_simp
            refine hK.out _ _ ?_ (fun hHeld => ?_)
            · go_keep
            clear hK K
            try simp only [Act.put, List.setIfInBounds_toArray, List.set_cons_zero, List.set_cons_succ]
            refine wpAnyH_done (by kernel_rfl) ?_ _
            refine NoPanic.normal ?_
            go_wp2
            go_roundg (l3.length - (kk + 1))
            case measure => omega
            case rel => exact ⟨kk + 1, by omega, by omega, by go_num, by
                            rw [hsn.out, ← List.append_assoc, hLLA.out, ← hy.out]
                            rw [List.length_append] at hR1
                            exact HSr.out.stored hB1 hx1.out hb1.out hR1⟩
          · refine AllReadyH.cons (o := { dst := some 132, op := Op.buildSlice 27 4 #[(0, Operand.tmp 114), (1, Operand.tmp 121), (2, Operand.tmp 128), (3, Operand.tmp 131)], type := 27, pos := "tfm.go:78", after := #[{ on := 7, ground := Ground.data }, { on := 14, ground := Ground.data }, { on := 21, ground := Ground.data }, { on := 24, ground := Ground.data }], guard := none }) rfl (fun K hK => ?_) AllReadyH.nil
            go_simp
            refine hK.out _ _ ?_ (fun hHeld => ?_)
            · go_keep
            clear hK K
            try simp only [Act.put, List.setIfInBounds_toArray, List.set_cons_zero, List.set_cons_succ]
            refine wpAnyH_ready (rs := [4]) (by kernel_rfl) (by simp) ?_
            refine AllReadyH.cons (o := { dst := some 111, op := Op.load 27 (Operand.tmp 110), type := 27, pos := "tfm.go:78", after := #[{ on := 3, ground := Ground.data }], guard := none }) rfl (fun K hK => ?_) AllReadyH.nil
            go_simp
            refine hK.out _ _ ?_ (fun hHeld => ?_)
            · go_keep
            clear hK K
            try simp only [Act.put, List.setIfInBounds_toArray, List.set_cons_zero, List.set_cons_succ]
            refine wpAnyH_ready (rs := [26]) (by kernel_rfl) (by simp) ?_
            refine AllReadyH.cons (o := { dst := some 133, op := Op.call { callee := Callee.builtin Builtin.append, args := #[Operand.tmp 111, Operand.tmp 132], argTypes := #[27, 27] }, type := 27, pos := "tfm.go:78", after := #[{ on := 4, ground := Ground.data }, { on := 25, ground := Ground.data }], guard := none }) rfl (fun K hK => ?_) AllReadyH.nil
            refine Kd.R_append_rows_step (Kd.int .u8) (w0 := w) w.heap.size (by rfl) (.tmp 111) (.tmp 132) 27 5 (.int .u8 0) 1 rfl Try.underlying27 info_u8 rfl (by decide) (by omega) (.slice A1 LL.length c1) LL [IntKind.u8.wrap cw, IntKind.u8.wrap (bits .or .i64 (IntKind.i64.wrap (chh * 16)) cd), IntKind.u8.wrap (bits .or .i64 (IntKind.i64.wrap (ci * 4)) ct), IntKind.u8.wrap cr] (some ⟨W4.heap.size, 0, none⟩) 4 4 (fun k => k ≠ bo) (fun _ => False) (by rfl) (by rfl) (Kd.R_below HR4.out (below_drew (below_alloc (Below.refl _ _) _))) (blk_C (W := (W4.alloc _).drew) _ (blk_drew (blk_new W4 _)) (by show 4 ≤ 9223372036854775807; omega)) (fun _ _ h => h) (fun _ h => h.elim) (fun k hk => by simp at hk; omega) (HB5.out.trans ((Below.refl _ _).alloc (by have := HB5.out.size; omega) _).drew) (by have := HB5.out.size; simp; omega) (by simp; omega) ?_; intro v1 w1 hR1 hB1 hG1 hat1; obtain ⟨A2, c2, hv2⟩ := Kd.R_slice hR1; subst hv2; have hb1 := aside (blk_grown (blk_drew (blk_alloc HX4.out.1 _)) hG1 HNE.out.1); have hf1 := blk_frozen hb1.out 0; have hn1 := aside (blk_grown (blk_drew (blk_alloc HN.out _)) hG1 HNE.out.2.1); have hk1 := (blk_cell hb1.out 0).trans (show _ = some (.slice A1 LL.length c1) from rfl); have g0 := (blk_cell hn1.out 0).trans (show _ = some (.int .i64 cw) from rfl); have g1 := (blk_cell hn1.out 1).trans (show _ = some (.int .i64 chh) from rfl); have g2 := (blk_cell hn1.out 2).trans (show _ = some (.int .i64 cd) from rfl); have g3 := (blk_cell hn1.out 3).trans (show _ = some (.int .i64 ci) from rfl); have g4 := (blk_cell hn1.out 4).trans (show _ = some (.int .i64 ct) from rfl); have g5 := (blk_cell hn1.out 5).trans (show _ = some (.int .i64 cr) from rfl); have hx1 := aside (blk_grown (blk_drew (blk_alloc HX4.out.2 _)) hG1 HNE.out.2.2)
            refine hK.out _ _ ?_ (fun hHeld => ?_)
            · exact ⟨g0, g1, g2, g3, g4, g5⟩
            clear hK K
            try simp only [Act.put, List.setIfInBounds_toArray, List.set_cons_zero, List.set_cons_succ]
            refine wpAnyH_take (i := 27) (oi := { dst := some 134, op := Op.nilCheck (Operand.tmp 107), type := 0, pos := "tfm.go:78", after := #[{ on := 0, ground := Ground.data }, { on := 0, ground := Ground.phase }, { on := 1, ground := Ground.phase }, { on := 2, ground := Ground.phase }, { on := 3, ground := Ground.phase }, { on := 4, ground := Ground.phase }, { on := 5, ground := Ground.phase }, { on := 6, ground := Ground.phase }, { on := 7, ground := Ground.phase }, { on := 8, ground := Ground.phase }, { on := 9, ground := Ground.phase }, { on := 10, ground := Ground.phase }, { on := 11, ground := Ground.phase }, { on := 12, ground := Ground.phase }, { on := 13, ground := Ground.phase }, { on := 14, ground := Ground.phase }, { on := 15, ground := Ground.phase }, { on := 16, ground := Ground.phase }, { on := 17, ground := Ground.phase }, { on := 18, ground := Ground.phase }, { on := 19, ground := Ground.phase }, { on := 20, ground := Ground.phase }, { on := 21, ground := Ground.phase }, { on := 22, ground := Ground.phase }, { on := 23, ground := Ground.phase }, { on := 24, ground := Ground.phase }, { on := 25, ground := Ground.phase }, { on := 26, ground := Ground.phase }], guard := none }) (v := ?_) rfl (by kernel_rfl) (by kernel_rfl) (by kernel_rfl) (fun _ _ _ h => h) (Or.inl ⟨by rfl, ?_⟩) (by assumption) ?_
            rotate_left
            · intro w hSw; (try dsimp only at hSw); go_simp; (try with_reducible rfl)
            try simp only [Act.put, List.setIfInBounds_toArray, List.set_cons_zero, List.set_cons_succ]
            refine wpAnyH_take (i := 28) (oi := { dst := some 135, op := Op.fieldAddr 44 (Operand.tmp 134) 0, type := 0, pos := "tfm.go:78", after := #[{ on := 27, ground := Ground.data }, { on := 0, ground := Ground.phase }, { on := 1, ground := Ground.phase }, { on := 2, ground := Ground.phase }, { on := 3, ground := Ground.phase }, { on := 4, ground := Ground.phase }, { on := 5, ground := Ground.phase }, { on := 6, ground := Ground.phase }, { on := 7, ground := Ground.phase }, { on := 8, ground := Ground.phase }, { on := 9, ground := Ground.phase }, { on := 10, ground := Ground.phase }, { on := 11, ground := Ground.phase }, { on := 12, ground := Ground.phase }, { on := 13, ground := Ground.phase }, { on := 14, ground := Ground.phase }, { on := 15, ground := Ground.phase }, { on := 16, ground := Ground.phase }, { on := 17, ground := Ground.phase }, { on := 18, ground := Ground.phase }, { on := 19, ground := Ground.phase }, { on := 20, ground := Ground.phase }, { on := 21, ground := Ground.phase }, { on := 22, ground := Ground.phase }, { on := 23, ground := Ground.phase }, { on := 24, ground := Ground.phase }, { on := 25, ground := Ground.phase }, { on := 26, ground := Ground.phase }], guard := none }) (v := ?_) rfl (by kernel_rfl) (by kernel_rfl) (by kernel_rfl) (fun _ _ _ h => h) (Or.inl ⟨by rfl, ?_⟩) (by assumption) ?_
            rotate_left
            · intro w hSw; (try dsimp only at hSw); go_simp; (try with_reducible rfl)
            try simp only [Act.put, List.setIfInBounds_toArray, List.set_cons_zero, List.set_cons_succ]
            refine wpAnyH_ready (rs := [29]) (by kernel_rfl) (by simp) ?_
            refine AllReadyH.cons (o := { dst := none, op := Op.store 27 (Operand.tmp 135) (Operand.tmp 133), type := 0, pos := "tfm.go:78", after := #[{ on := 28, ground := Ground.data }, { on := 26, ground := Ground.data }, { on := 26, ground := Ground.chain }, { on := 0, ground := Ground.phase }, { on := 1, ground := Ground.phase }, { on := 2, ground := Ground.phase }, { on := 3, ground := Ground.phase }, { on := 4, ground := Ground.phase }, { on := 5, ground := Ground.phase }, { on := 6, ground := Ground.phase }, { on := 7, ground := Ground.phase }, { on := 8, ground := Ground.phase }, { on := 9, ground := Ground.phase }, { on := 10, ground := Ground.phase }, { on := 11, ground := Ground.phase }, { on := 12, ground := Ground.phase }, { on := 13, ground := Ground.phase }, { on := 14, ground := Ground.phase }, { on := 15, ground := Ground.phase }, { on := 16, ground := Ground.phase }, { on := 17, ground := Ground.phase }, { on := 18, ground := Ground.phase }, { on := 19, ground := Ground.phase }, { on := 20, ground := Ground.phase }, { on := 21, ground := Ground.phase }, { on := 22, ground := Ground.phase }, { on := 23, ground := Ground.phase }, { on := 24, ground := Ground.phase }, { on := 25, ground := Ground.phase }, { on := 26, ground := Ground.phase }], guard := none }) rfl (fun K hK => ?_) AllReadyH.nil
            go_simp
            refine hK.out _ _ ?_ (fun hHeld => ?_)
            · go_keep
            clear hK K
            try simp only [Act.put, List.setIfInBounds_toArray, List.set_cons_zero, List.set_cons_succ]
            refine wpAnyH_done (by kernel_rfl) ?_ _
            refine NoPanic.normal ?_
            go_wp2
            go_roundg (l3.length - (kk + 1))
            case measure => omega
            case rel => exact ⟨kk + 1, by omega, by omega, by go_num, by
                            rw [hsn.out, ← List.append_assoc, hLLA.out, ← hy.out]
                            rw [List.length_append] at hR1
                            exact HSr.out.stored hB1 hx1.out hb1.out hR1⟩
        · obtain rfl : kk = l3.length := by omega
          rw [List.take_length] at HSr
          clear hlt hkk hg HSa
          have f4 := HSr.out.cell 4 (.slice A4 l4.length c4) rfl
          have f5 := HSr.out.cell 5 (.slice A5 l5.length c5) rfl
          have f6 := HSr.out.cell 6 (.slice A6 l6.length c6) rfl
          have f7 := HSr.out.cell 7 (.slice A7 l7.length c7) rfl
          go_wp2_with fail
          obtain ⟨W5, hW5⟩ : ∃ W5, W5 = wr.alloc (.cells #[.slice A4 l4.length c4, .slice A5 l5.length c5, .slice A6 l6.length c6, .slice A7 l7.length c7] 23) := ⟨_, rfl⟩
          have HS5 := aside (show WSt w W5 bx bo #[.int .i64 s, .int .i64 d, .int .i64 f, .slice A3 l3.length c3, .slice A4 l4.length c4, .slice A5 l5.length c5, .slice A6 l6.length c6, .slice A7 l7.length c7, .slice A8 l8.length c8, .slice A9 l9.length c9, .slice A10 l10.length c10] (L0 ++ charsBytes l3) by
            rw [hW5]
            have hb := HSr.out.below
            obtain ⟨v, hv, hle, hR⟩ := HSr.out.out
            exact ⟨hb.alloc hb.size _, blk_alloc HSr.out.fx _, ⟨v, blk_alloc hv _, hle, Kd.R_below hR (below_alloc (Below.refl _ _) _)⟩, HSr.out.ne⟩)
          have HL5 := aside (show W5.heap[wr.heap.size]? = some (.cells #[.slice A4 l4.length c4, .slice A5 l5.length c5, .slice A6 l6.length c6, .slice A7 l7.length c7] 23 (0, 0)) by rw [hW5]; exact blk_new _ _)
          rw [← hW5]
          have hn5 := aside (show ¬ wr.heap.size = bo from fun e => by have := HSr.out.lt.2; omega)
          clear hW5 f4 f5 f6 f7 HSr
          generalize wr.heap.size = n5 at HL5 hn5 ⊢
          go_loopg [147] 4 (fun gg s147 wr => ∃ kk : Nat, kk ≤ 4 ∧ 4 - kk ≤ gg ∧ s147 = .int .i64 kk ∧ Aside (WSt w wr bx bo #[.int .i64 s, .int .i64 d, .int .i64 f, .slice A3 l3.length c3, .slice A4 l4.length c4, .slice A5 l5.length c5, .slice A6 l6.length c6, .slice A7 l7.length c7, .slice A8 l8.length c8, .slice A9 l9.length c9, .slice A10 l10.length c10] (L0 ++ charsBytes l3 ++ fixAll ([l4, l5, l6, l7].take kk))) ∧ Aside (W5.grownBy wr (some bo)))
          case atStart => exact ⟨0, by omega, by omega, rfl, by simpa [fixAll] using HS5, ⟨rfl, rfl, rfl, Nat.le_refl _, fun _ _ _ => rfl⟩⟩
          case round =>
            obtain ⟨kk, hkk, hg, rfl, HSq, HG⟩ := hrel
            have HLq := aside (blk_grown HL5.out HG.out (by simpa using hn5.out))
            by_cases hlt : kk < 4
            · clear HL5 HS5 hn5
              obtain rfl | rfl | rfl | rfl : kk = 0 ∨ kk = 1 ∨ kk = 2 ∨ kk = 3 := by omega
              · have hc0 := (blk_cell HLq.out 0).trans (show _ = some (.slice A4 l4.length c4) from rfl)
                have HP := aside (ofixes_any w.heap.size bo _ A4 c4 l4 wr HSq.out.out (Kd.C_below HH.out.2.1 HSq.out.below) (C_far HH.out.2.1 HSq.out) (by simp [fixAll, fixBytes_length, charsBytes_length, hlA.out]; omega) (fix_ranges4 HK.out))
                clear HLq
                go_wp2_with (go_at_call 15; refine HP.out.mono ?_; rintro e w1 ⟨rfl, hO1, hG1⟩)
                go_roundg 3
                case measure => omega
                case rel => exact ⟨1, by omega, by omega, rfl, by simpa [fixAll, Aside] using HSq.out.grown hO1 hG1, grown_trans HG.out hG1⟩
              · have hc0 := (blk_cell HLq.out 1).trans (show _ = some (.slice A5 l5.length c5) from rfl)
                have HP := aside (ofixes_any w.heap.size bo _ A5 c5 l5 wr HSq.out.out (Kd.C_below HH.out.2.2.1 HSq.out.below) (C_far HH.out.2.2.1 HSq.out) (by simp [fixAll, fixBytes_length, charsBytes_length, hlA.out]; omega) (fix_ranges5 HK.out))
                clear HLq
                go_wp2_with (go_at_call 15; refine HP.out.mono ?_; rintro e w1 ⟨rfl, hO1, hG1⟩)
                go_roundg 2
                case measure => omega
                case rel => exact ⟨2, by omega, by omega, rfl, by simpa [fixAll, Aside] using HSq.out.grown hO1 hG1, grown_trans HG.out hG1⟩
              · have hc0 := (blk_cell HLq.out 2).trans (show _ = some (.slice A6 l6.length c6) from rfl)
                have HP := aside (ofixes_any w.heap.size bo _ A6 c6 l6 wr HSq.out.out (Kd.C_below HH.out.2.2.2.1 HSq.out.below) (C_far HH.out.2.2.2.1 HSq.out) (by simp [fixAll, fixBytes_length, charsBytes_length, hlA.out]; omega) (fix_ranges6 HK.out))
                clear HLq
                go_wp2_with (go_at_call 15; refine HP.out.mono ?_; rintro e w1 ⟨rfl, hO1, hG1⟩)
                go_roundg 1
                case measure => omega
                case rel => exact ⟨3, by omega, by omega, rfl, by simpa [fixAll, Aside] using HSq.out.grown hO1 hG1, grown_trans HG.out hG1⟩
              · have hc0 := (blk_cell HLq.out 3).trans (show _ = some (.slice A7 l7.length c7) from rfl)
                have HP := aside (ofixes_any w.heap.size bo _ A7 c7 l7 wr HSq.out.out (Kd.C_below HH.out.2.2.2.2.1 HSq.out.below) (C_far HH.out.2.2.2.2.1 HSq.out) (by simp [fixAll, fixBytes_length, charsBytes_length, hlA.out]; omega) (fix_ranges7 HK.out))
                clear HLq
                go_wp2_with (go_at_call 15; refine HP.out.mono ?_; rintro e w1 ⟨rfl, hO1, hG1⟩)
                go_roundg 0
                case measure => omega
                case rel => exact ⟨4, by omega, by omega, rfl, by simpa [fixAll, Aside] using HSq.out.grown hO1 hG1, grown_trans HG.out hG1⟩
            · obtain rfl : kk = 4 := by omega
              have HSe := aside (show WSt w wr bx bo #[.int .i64 s, .int .i64 d, .int .i64 f, .slice A3 l3.length c3, .slice A4 l4.length c4, .slice A5 l5.length c5, .slice A6 l6.length c6, .slice A7 l7.length c7, .slice A8 l8.length c8, .slice A9 l9.length c9, .slice A10 l10.length c10] (L0 ++ charsBytes l3 ++ (fixBytes l4 ++ (fixBytes l5 ++ (fixBytes l6 ++ fixBytes l7)))) by simpa [fixAll] using HSq.out)
              clear HSq HL5 HS5 hn5 HLq HG hlt hkk hg
              generalize hL1 : L0 ++ charsBytes l3 ++ (fixBytes l4 ++ (fixBytes l5 ++ (fixBytes l6 ++ fixBytes l7))) = L1 at HSe
              have hL1A := aside hL1
              have hl1 : L1.length ≤ 10000 := by rw [← hL1]; simp [fixBytes_length, charsBytes_length, hlA.out]; omega
              have hl1A := aside hl1
              clear hL1 hl1
              have f8 := HSe.out.cell 8 (.slice A8 l8.length c8) rfl
              go_wp2_with fail
              go_loopg [158] l8.length (fun gg s158 wr => ∃ kk : Nat, kk ≤ l8.length ∧ l8.length - kk ≤ gg ∧ s158 = .int .i64 kk ∧ Aside (WSt w wr bx bo #[.int .i64 s, .int .i64 d, .int .i64 f, .slice A3 l3.length c3, .slice A4 l4.length c4, .slice A5 l5.length c5, .slice A6 l6.length c6, .slice A7 l7.length c7, .slice A8 l8.length c8, .slice A9 l9.length c9, .slice A10 l10.length c10] (L1 ++ stepsBytes (l8.take kk))))
              case atStart => exact ⟨0, by omega, by omega, rfl, by simpa [stepsBytes] using HSe⟩
              case round =>
                obtain ⟨kk, hkk, hg, rfl, HSr⟩ := hrel
                by_cases hlt : kk < l8.length
                · obtain ⟨ad, hA, hF⟩ := step_cells (Kd.C_below HH.out.2.2.2.2.2.1 HSr.out.below) (by omega)
                  subst hA
                  have hrg := aside (step_ranges HK.out kk hlt)
                  have hsn := aside (stepsBytes_snoc l8 kk hlt)
                  have hlen := stepsBytes_length (l8.take kk)
                  rw [List.length_take] at hlen
                  have hqq := hF kk hlt
                  generalize l8.getD kk zSt = ch at hqq hrg hsn
                  obtain ⟨cw, chh, cd, ci⟩ := ch
                  obtain ⟨r1, r2, r3, r4, r5, r6, r7, r8⟩ := hrg.out
                  obtain ⟨q0, q1, q2, q3⟩ := hqq
                  dsimp only at q0 q1 q2 q3 r1 r2 r3 r4 r5 r6 r7 r8
                  rw [add_field _ _ 1 (by omega)] at q1
                  rw [add_field _ _ 2 (by omega)] at q2
                  rw [add_field _ _ 3 (by omega)] at q3
                  have q0 : wr.cell? (ad.add (kk * 4)) = some (.int .i64 cw) := q0
                  clear hF hrg
                  generalize hLL : L1 ++ stepsBytes (l8.take kk) = LL at HSr
                  have hLLA := aside hLL
                  have hLn : LL.length ≤ 100000 := by have := hl1A.out; rw [← hLL, List.length_append, hlen]; omega
                  clear hLL hlen
                  obtain ⟨v, hv, hb, hR⟩ := HSr.out.out
                  obtain ⟨A1, c1, hve, hc1, hC1⟩ := Kd.R_reads hR
                  subst hve
                  obtain ⟨hcell, hfr⟩ := outis_cell hv
                  have hbl : bo < wr.heap.size := blk_lt hv
                  have HRR := aside hR
                  have HVV := aside hv
                  clear hR hv hC1
                  have hltz : (kk : Int) < (l8.length : Int) := by omega
                  go_wp2_with fail
                  obtain ⟨W4, hW4⟩ : ∃ W4, W4 = wr.alloc (.cells #[.int .i64 cw, .int .i64 chh, .int .i64 cd, .int .i64 ci] 50) := ⟨_, rfl⟩
                  have HB4 := aside (show Below wr.heap.size wr W4 by rw [hW4]; exact below_alloc (Below.refl _ _) _)
                  have HN := aside (show W4.heap[wr.heap.size]? = some (.cells #[.int .i64 cw, .int .i64 chh, .int .i64 cd, .int .i64 ci] 50 (0, 0)) by rw [hW4]; exact blk_new _ _)
                  rw [← hW4]
                  clear hW4 q0 q1 q2 q3
                  replace hcell := (HB4.out.cell (p := ⟨bo, 0, none⟩) hbl).trans hcell
                  replace hfr := (HB4.out.frozen (p := ⟨bo, 0, none⟩) hbl).trans hfr
                  have hsz := blk_lt HN.out
                  generalize hnb : wr.heap.size = nb at HB4 HN hbl hsz ⊢
                  have e0 := (blk_cell HN.out 0).trans (show _ = some (.int .i64 cw) from rfl)
                  have e1 := (blk_cell HN.out 1).trans (show _ = some (.int .i64 chh) from rfl)
                  have e2 := (blk_cell HN.out 2).trans (show _ = some (.int .i64 cd) from rfl)
                  have e3 := (blk_cell HN.out 3).trans (show _ = some (.int .i64 ci) from rfl)
                  have hnbA := aside hnb
                  clear hnb
                  have hbs : bo < W4.heap.size := by omega
                  have HR4 := aside (Kd.R_below HRR.out (by rw [hnbA.out]; exact HB4.out))
                  have hbo4 := (HB4.out.block bo hbl).trans HVV.out
                  have hbx4 := (HB4.out.block bx (by rw [← hnbA.out]; exact HSr.out.lt.1)).trans HSr.out.fx
                  have hne1 := Kd.R_ne HR4.out hbo4 (by decide)
                  have hne2 := Kd.R_ne HR4.out HN.out (by decide)
                  have hne3 := Kd.R_ne HR4.out hbx4 (by decide)
                  have HNE := aside (And.intro hne1 (And.intro hne2 hne3))
                  have HX4 := aside (And.intro hbo4 hbx4)
                  have HB5 := aside (HSr.out.below.trans ⟨HB4.out.os, HB4.out.tape, HB4.out.output, HB4.out.size, fun i hi => HB4.out.block i (by have := HSr.out.below.size; omega)⟩)
                  clear hne1 hne2 hne3 hbo4 hbx4
                  have hy := aside (show [IntKind.u8.wrap cw, IntKind.u8.wrap chh, IntKind.u8.wrap cd, IntKind.u8.wrap ci] = stepBytes ⟨cw, chh, cd, ci⟩ by
                    rw [wr8 cw r1 r2, wr8 chh r3 r4, wr8 cd r5 r6, wr8 ci r7 r8]; rfl)
                  have hbn : ¬ bo = nb := by omega
                  have hbn' : ¬ nb = bo := by omega
                  refine wp_region_noPanic ?_
                  refine wp_region_held_drew (S := (fun w' => w'.cell? ⟨nb, 0, none⟩ = some (.int .i64 cw) ∧ w'.cell? ⟨nb, 1, none⟩ = some (.int .i64 chh) ∧ w'.cell? ⟨nb, 2, none⟩ = some (.int .i64 cd) ∧ w'.cell? ⟨nb, 3, none⟩ = some (.int .i64 ci))) (by kernel_rfl) ?_ (fun hHeld => ?_)
                  · exact ⟨e0, e1, e2, e3⟩
                  refine wpAnyH_take (i := 0) (oi := { dst := some 162, op := Op.move (Operand.tmp 5), type := 42, pos := "tfm.go:84", after := #[], guard := none }) (v := ?_) rfl (by kernel_rfl) (by kernel_rfl) (by kernel_rfl) (fun _ _ _ h => h) (Or.inl ⟨by rfl, ?_⟩) (by assumption) ?_
                  rotate_left
                  · intro w hSw; (try dsimp only at hSw); go_simp; (try with_reducible rfl)
                  try simp only [Act.put, List.setIfInBounds_toArray, List.set_cons_zero, List.set_cons_succ]
                  refine wpAnyH_take (i := 1) (oi := { dst := some 163, op := Op.move (Operand.tmp 5), type := 42, pos := "tfm.go:84", after := #[], guard := none }) (v := ?_) rfl (by kernel_rfl) (by kernel_rfl) (by kernel_rfl) (fun _ _ _ h => h) (Or.inl ⟨by rfl, ?_⟩) (by assumption) ?_
                  rotate_left
                  · intro w hSw; (try dsimp only at hSw); go_simp; (try with_reducible rfl)
                  try simp only [Act.put, List.setIfInBounds_toArray, List.set_cons_zero, List.set_cons_succ]
                  refine wpAnyH_take (i := 2) (oi := { dst := some 164, op := Op.nilCheck (Operand.tmp 163), type := 0, pos := "tfm.go:84", after := #[{ on := 1, ground := Ground.data }], guard := none }) (v := ?_) rfl (by kernel_rfl) (by kernel_rfl) (by kernel_rfl) (fun _ _ _ h => h) (Or.inl ⟨by rfl, ?_⟩) (by assumption) ?_
                  rotate_left
                  · intro w hSw; (try dsimp only at hSw); go_simp; (try with_reducible rfl)
                  try simp only [Act.put, List.setIfInBounds_toArray, List.set_cons_zero, List.set_cons_succ]
                  refine wpAnyH_take (i := 3) (oi := { dst := some 165, op := Op.fieldAddr 44 (Operand.tmp 164) 0, type := 0, pos := "tfm.go:84", after := #[{ on := 2, ground := Ground.data }], guard := none }) (v := ?_) rfl (by kernel_rfl) (by kernel_rfl) (by kernel_rfl) (fun _ _ _ h => h) (Or.inl ⟨by rfl, ?_⟩) (by assumption) ?_
                  rotate_left
                  · intro w hSw; (try dsimp only at hSw); go_simp; (try with_reducible rfl)
                  try simp only [Act.put, List.setIfInBounds_toArray, List.set_cons_zero, List.set_cons_succ]
                  refine wpAnyH_take (i := 5) (oi := { dst := some 167, op := Op.fieldAddr 50 (Operand.tmp 13) 0, type := 0, pos := "tfm.go:84", after := #[], guard := none }) (v := ?_) rfl (by kernel_rfl) (by kernel_rfl) (by kernel_rfl) (fun _ _ _ h => h) (Or.inl ⟨by rfl, ?_⟩) (by assumption) ?_
                  rotate_left
                  · intro w hSw; (try dsimp only at hSw); go_simp; (try with_reducible rfl)
                  try simp only [Act.put, List.setIfInBounds_toArray, List.set_cons_zero, List.set_cons_succ]
                  refine wpAnyH_take (i := 6) (oi := { dst := some 168, op := Op.load 3 (Operand.tmp 167), type := 3, pos := "tfm.go:84", after := #[{ on := 5, ground := Ground.data }], guard := none }) (v := ?_) rfl (by kernel_rfl) (by kernel_rfl) (by kernel_rfl) (fun _ _ _ h => h) (Or.inl ⟨by rfl, ?_⟩) (by assumption) ?_
                  rotate_left
                  · intro w hSw; (try dsimp only at hSw); go_simp; (try with_reducible rfl)
                  try simp only [Act.put, List.setIfInBounds_toArray, List.set_cons_zero, List.set_cons_succ]
                  refine wpAnyH_take (i := 7) (oi := { dst := some 169, op := Op.convert 3 5 (Operand.tmp 168), type := 5, pos := "tfm.go:84", after := #[{ on := 6, ground := Ground.data }], guard := none }) (v := ?_) rfl (by kernel_rfl) (by kernel_rfl) (by kernel_rfl) (fun _ _ _ h => h) (Or.inl ⟨by rfl, ?_⟩) (by assumption) ?_
                  rotate_left
                  · intro w hSw; (try dsimp only at hSw); go_simp; (try with_reducible rfl)
                  try simp only [Act.put, List.setIfInBounds_toArray, List.set_cons_zero, List.set_cons_succ]
                  refine wpAnyH_take (i := 8) (oi := { dst := some 170, op := Op.fieldAddr 50 (Operand.tmp 13) 1, type := 0, pos := "tfm.go:84", after := #[], guard := none }) (v := ?_) rfl (by kernel_rfl) (by kernel_rfl) (by kernel_rfl) (fun _ _ _ h => h) (Or.inl ⟨by rfl, ?_⟩) (by assumption) ?_
                  rotate_left
                  · intro w hSw; (try dsimp only at hSw); go_simp; (try with_reducible rfl)
                  try simp only [Act.put, List.setIfInBounds_toArray, List.set_cons_zero, List.set_cons_succ]
                  refine wpAnyH_take (i := 9) (oi := { dst := some 171, op := Op.load 3 (Operand.tmp 170), type := 3, pos := "tfm.go:84", after := #[{ on := 8, ground := Ground.data }], guard := none }) (v := ?_) rfl (by kernel_rfl) (by kernel_rfl) (by kernel_rfl) (fun _ _ _ h => h) (Or.inl ⟨by rfl, ?_⟩) (by assumption) ?_
                  rotate_left
                  · intro w hSw; (try dsimp only at hSw); go_simp; (try with_reducible rfl)
                  try simp only [Act.put, List.setIfInBounds_toArray, List.set_cons_zero, List.set_cons_succ]
                  refine wpAnyH_take (i := 10) (oi := { dst := some 172, op := Op.convert 3 5 (Operand.tmp 171), type := 5, pos := "tfm.go:84", after := #[{ on := 9, ground := Ground.data }], guard := none }) (v := ?_) rfl (by kernel_rfl) (by kernel_rfl) (by kernel_rfl) (fun _ _ _ h => h) (Or.inl ⟨by rfl, ?_⟩) (by assumption) ?_
                  rotate_left
                  · intro w hSw; (try dsimp only at hSw); go_simp; (try with_reducible rfl)
                  try simp only [Act.put, List.setIfInBounds_toArray, List.set_cons_zero, List.set_cons_succ]
                  refine wpAnyH_take (i := 11) (oi := { dst := some 173, op := Op.fieldAddr 50 (Operand.tmp 13) 2, type := 0, pos := "tfm.go:84", after := #[], guard := none }) (v := ?_) rfl (by kernel_rfl) (by kernel_rfl) (by kernel_rfl) (fun _ _ _ h => h) (Or.inl ⟨by rfl, ?_⟩) (by assumption) ?_
                  rotate_left
                  · intro w hSw; (try dsimp only at hSw); go_simp; (try with_reducible rfl)
                  try simp only [Act.put, List.setIfInBounds_toArray, List.set_cons_zero, List.set_cons_succ]
                  refine wpAnyH_take (i := 12) (oi := { dst := some 174, op := Op.load 3 (Operand.tmp 173), type := 3, pos := "tfm.go:84", after := #[{ on := 11, ground := Ground.data }], guard := none }) (v := ?_) rfl (by kernel_rfl) (by kernel_rfl) (by kernel_rfl) (fun _ _ _ h => h) (Or.inl ⟨by rfl, ?_⟩) (by assumption) ?_
                  rotate_left
                  · intro w hSw; (try dsimp only at hSw); go_simp; (try with_reducible rfl)
                  try simp only [Act.put, List.setIfInBounds_toArray, List.set_cons_zero, List.set_cons_succ]
                  refine wpAnyH_take (i := 13) (oi := { dst := some 175, op := Op.convert 3 5 (Operand.tmp 174), type := 5, pos := "tfm.go:84", after := #[{ on := 12, ground := Ground.data }], guard := none }) (v := ?_) rfl (by kernel_rfl) (by kernel_rfl) (by kernel_rfl) (fun _ _ _ h => h) (Or.inl ⟨by rfl, ?_⟩) (by assumption) ?_
                  rotate_left
                  · intro w hSw; (try dsimp only at hSw); go_simp; (try with_reducible rfl)
                  try simp only [Act.put, List.setIfInBounds_toArray, List.set_cons_zero, List.set_cons_succ]
                  refine wpAnyH_take (i := 14) (oi := { dst := some 176, op := Op.fieldAddr 50 (Operand.tmp 13) 3, type := 0, pos := "tfm.go:84", after := #[], guard := none }) (v := ?_) rfl (by kernel_rfl) (by kernel_rfl) (by kernel_rfl) (fun _ _ _ h => h) (Or.inl ⟨by rfl, ?_⟩) (by assumption) ?_
                  rotate_left
                  · intro w hSw; (try dsimp only at hSw); go_simp; (try with_reducible rfl)
                  try simp only [Act.put, List.setIfInBounds_toArray, List.set_cons_zero, List.set_cons_succ]
                  refine wpAnyH_take (i := 15) (oi := { dst := some 177, op := Op.load 3 (Operand.tmp 176), type := 3, pos := "tfm.go:84", after := #[{ on := 14, ground := Ground.data }], guard := none }) (v := ?_) rfl (by kernel_rfl) (by kernel_rfl) (by kernel_rfl) (fun _ _ _ h => h) (Or.inl ⟨by rfl, ?_⟩) (by assumption) ?_
                  rotate_left
                  · intro w hSw; (try dsimp only at hSw); go_simp; (try with_reducible rfl)
                  try simp only [Act.put, List.setIfInBounds_toArray, List.set_cons_zero, List.set_cons_succ]
                  refine wpAnyH_take (i := 16) (oi := { dst := some 178, op := Op.convert 3 5 (Operand.tmp 177), type := 5, pos := "tfm.go:84", after := #[{ on := 15, ground := Ground.data }], guard := none }) (v := ?_) rfl (by kernel_rfl) (by kernel_rfl) (by kernel_rfl) (fun _ _ _ h => h) (Or.inl ⟨by rfl, ?_⟩) (by assumption) ?_
                  rotate_left
                  · intro w hSw; (try dsimp only at hSw); go_simp; (try with_reducible rfl)
                  try simp only [Act.put, List.setIfInBounds_toArray, List.set_cons_zero, List.set_cons_succ]
                  refine wpAnyH_ready (rs := [4, 17]) (by kernel_rfl) (by simp) ?_
                  refine AllReadyH.cons (o := { dst := some 166, op := Op.load 27 (Operand.tmp 165), type := 27, pos := "tfm.go:84", after := #[{ on := 3, ground := Ground.data }], guard := none }) rfl (fun K hK => ?_) ?_
                  · go_simp
                    refine hK.out _ _ ?_ (fun hHeld => ?_)
                    · go_keep
                    clear hK K
                    try simp only [Act.put, List.setIfInBounds_toArray, List.set_cons_zero, List.set_cons_succ]
                    refine wpAnyH_ready (rs := [17]) (by kernel_rfl) (by simp) ?_
                    refine AllReadyH.cons (o := { dst := some 179, op := Op.buildSlice 27 4 #[(0, Operand.tmp 169), (1, Operand.tmp 172), (2, Operand.tmp 175), (3, Operand.tmp 178)], type := 27, pos := "tfm.go:84", after := #[{ on := 7, ground := Ground.data }, { on := 10, ground := Ground.data }, { on := 13, ground := Ground.data }, { on := 16, ground := Ground.data }], guard := none }) rfl (fun K hK => ?_) AllReadyH.nil
                    go_simp
                    refine hK.out _ _ ?_ (fun hHeld => ?_)
                    · go_keep
                    clear hK K
                    try simp only [Act.put, List.setIfInBounds_toArray, List.set_cons_zero, List.set_cons_succ]
                    refine wpAnyH_ready (rs := [18]) (by kernel_rfl) (by simp) ?_
                    refine AllReadyH.cons (o := { dst := some 180, op := Op.call { callee := Callee.builtin Builtin.append, args := #[Operand.tmp 166, Operand.tmp 179], argTypes := #[27, 27] }, type := 27, pos := "tfm.go:84", after := #[{ on := 4, ground := Ground.data }, { on := 17, ground := Ground.data }], guard := none }) rfl (fun K hK => ?_) AllReadyH.nil
                    refine Kd.R_append_rows_step (Kd.int .u8) (w0 := w) w.heap.size (by rfl) (.tmp 166) (.tmp 179) 27 5 (.int .u8 0) 1 rfl Try.underlying27 info_u8 rfl (by decide) (by omega) (.slice A1 LL.length c1) LL [IntKind.u8.wrap cw, IntKind.u8.wrap chh, IntKind.u8.wrap cd, IntKind.u8.wrap ci] (some ⟨W4.heap.size, 0, none⟩) 4 4 (fun k => k ≠ bo) (fun _ => False) (by rfl) (by rfl) (Kd.R_below HR4.out (below_drew (below_alloc (Below.refl _ _) _))) (blk_C (W := (W4.alloc _).drew) _ (blk_drew (blk_new W4 _)) (by show 4 ≤ 9223372036854775807; omega)) (fun _ _ h => h) (fun _ h => h.elim) (fun k hk => by simp at hk; omega) (HB5.out.trans ((Below.refl _ _).alloc (by have := HB5.out.size; omega) _).drew) (by have := HB5.out.size; simp; omega) (by simp; omega) ?_; intro v1 w1 hR1 hB1 hG1 hat1; obtain ⟨A2, c2, hv2⟩ := Kd.R_slice hR1; subst hv2; have hb1 := aside (blk_grown (blk_drew (blk_alloc HX4.out.1 _)) hG1 HNE.out.1); have hf1 := blk_frozen hb1.out 0; have hn1 := aside (blk_grown (blk_drew (blk_alloc HN.out _)) hG1 HNE.out.2.1); have hk1 := (blk_cell hb1.out 0).trans (show _ = some (.slice A1 LL.length c1) from rfl); have g0 := (blk_cell hn1.out 0).trans (show _ = some (.int .i64 cw) from rfl); have g1 := (blk_cell hn1.out 1).trans (show _ = some (.int .i64 chh) from rfl); have g2 := (blk_cell hn1.out 2).trans (show _ = some (.int .i64 cd) from rfl); have g3 := (blk_cell hn1.out 3).trans (show _ = some (.int .i64 ci) from rfl); have hx1 := aside (blk_grown (blk_drew (blk_alloc HX4.out.2 _)) hG1 HNE.out.2.2)
                    refine hK.out _ _ ?_ (fun hHeld => ?_)
                    · exact ⟨g0, g1, g2, g3⟩
                    clear hK K
                    try simp only [Act.put, List.setIfInBounds_toArray, List.set_cons_zero, List.set_cons_succ]
                    refine wpAnyH_take (i := 19) (oi := { dst := some 181, op := Op.nilCheck (Operand.tmp 162), type := 0, pos := "tfm.go:84", after := #[{ on := 0, ground := Ground.data }, { on := 0, ground := Ground.phase }, { on := 1, ground := Ground.phase }, { on := 2, ground := Ground.phase }, { on := 3, ground := Ground.phase }, { on := 4, ground := Ground.phase }, { on := 5, ground := Ground.phase }, { on := 6, ground := Ground.phase }, { on := 7, ground := Ground.phase }, { on := 8, ground := Ground.phase }, { on := 9, ground := Ground.phase }, { on := 10, ground := Ground.phase }, { on := 11, ground := Ground.phase }, { on := 12, ground := Ground.phase }, { on := 13, ground := Ground.phase }, { on := 14, ground := Ground.phase }, { on := 15, ground := Ground.phase }, { on := 16, ground := Ground.phase }, { on := 17, ground := Ground.phase }, { on := 18, ground := Ground.phase }], guard := none }) (v := ?_) rfl (by kernel_rfl) (by kernel_rfl) (by kernel_rfl) (fun _ _ _ h => h) (Or.inl ⟨by rfl, ?_⟩) (by assumption) ?_
                    rotate_left
                    · intro w hSw; (try dsimp only at hSw); go_simp; (try with_reducible rfl)
                    try simp only [Act.put, List.setIfInBounds_toArray, List.set_cons_zero, List.set_cons_succ]
                    refine wpAnyH_take (i := 20) (oi := { dst := some 182, op := Op.fieldAddr 44 (Operand.tmp 181) 0, type := 0, pos := "tfm.go:84", after := #[{ on := 19, ground := Ground.data }, { on := 0, ground := Ground.phase }, { on := 1, ground := Ground.phase }, { on := 2, ground := Ground.phase }, { on := 3, ground := Ground.phase }, { on := 4, ground := Ground.phase }, { on := 5, ground := Ground.phase }, { on := 6, ground := Ground.phase }, { on := 7, ground := Ground.phase }, { on := 8, ground := Ground.phase }, { on := 9, ground := Ground.phase }, { on := 10, ground := Ground.phase }, { on := 11, ground := Ground.phase }, { on := 12, ground := Ground.phase }, { on := 13, ground := Ground.phase }, { on := 14, ground := Ground.phase }, { on := 15, ground := Ground.phase }, { on := 16, ground := Ground.phase }, { on := 17, ground := Ground.phase }, { on := 18, ground := Ground.phase }], guard := none }) (v := ?_) rfl (by kernel_rfl) (by kernel_rfl) (by kernel_rfl) (fun _ _ _ h => h) (Or.inl ⟨by rfl, ?_⟩) (by assumption) ?_
                    rotate_left
                    · intro w hSw; (try dsimp only at hSw); go_simp; (try with_reducible rfl)
                    try simp only [Act.put, List.setIfInBounds_toArray, List.set_cons_zero, List.set_cons_succ]
                    refine wpAnyH_ready (rs := [21]) (by kernel_rfl) (by simp) ?_
                    refine AllReadyH.cons (o := { dst := none, op := Op.store 27 (Operand.tmp 182) (Operand.tmp 180), type := 0, pos := "tfm.go:84", after := #[{ on := 20, ground := Ground.data }, { on := 18, ground := Ground.data }, { on := 18, ground := Ground.chain }, { on := 0, ground := Ground.phase }, { on := 1, ground := Ground.phase }, { on := 2, ground := Ground.phase }, { on := 3, ground := Ground.phase }, { on := 4, ground := Ground.phase }, { on := 5, ground := Ground.phase }, { on := 6, ground := Ground.phase }, { on := 7, ground := Ground.phase }, { on := 8, ground := Ground.phase }, { on := 9, ground := Ground.phase }, { on := 10, ground := Ground.phase }, { on := 11, ground := Ground.phase }, { on := 12, ground := Ground.phase }, { on := 13, ground := Ground.phase }, { on := 14, ground := Ground.phase }, { on := 15, ground := Ground.phase }, { on := 16, ground := Ground.phase }, { on := 17, ground := Ground.phase }, { on := 18, ground := Ground.phase }], guard := none }) rfl (fun K hK => ?_) AllReadyH.nil
                    go_simp
                    refine hK.out _ _ ?_ (fun hHeld => ?_)
                    · go_keep
                    clear hK K
                    try simp only [Act.put, List.setIfInBounds_toArray, List.set_cons_zero, List.set_cons_succ]
                    refine wpAnyH_done (by kernel_rfl) ?_ _
                    refine NoPanic.normal ?_
                    go_wp2
                    go_roundg (l8.length - (kk + 1))
                    case measure => omega
                    case rel => exact ⟨kk + 1, by omega, by omega, by go_num, by
                                            rw [hsn.out, ← List.append_assoc, hLLA.out, ← hy.out]
                                            rw [List.length_append] at hR1
                                            exact HSr.out.stored hB1 hx1.out hb1.out hR1⟩
                  · refine AllReadyH.cons (o := { dst := some 179, op := Op.buildSlice 27 4 #[(0, Operand.tmp 169), (1, Operand.tmp 172), (2, Operand.tmp 175), (3, Operand.tmp 178)], type := 27, pos := "tfm.go:84", after := #[{ on := 7, ground := Ground.data }, { on := 10, ground := Ground.data }, { on := 13, ground := Ground.data }, { on := 16, ground := Ground.data }], guard := none }) rfl (fun K hK => ?_) AllReadyH.nil
                    go_simp
                    refine hK.out _ _ ?_ (fun hHeld => ?_)
                    · go_keep
                    clear hK K
                    try simp only [Act.put, List.setIfInBounds_toArray, List.set_cons_zero, List.set_cons_succ]
                    refine wpAnyH_ready (rs := [4]) (by kernel_rfl) (by simp) ?_
                    refine AllReadyH.cons (o := { dst := some 166, op := Op.load 27 (Operand.tmp 165), type := 27, pos := "tfm.go:84", after := #[{ on := 3, ground := Ground.data }], guard := none }) rfl (fun K hK => ?_) AllReadyH.nil
                    go_simp
                    refine hK.out _ _ ?_ (fun hHeld => ?_)
                    · go_keep
                    clear hK K
                    try simp only [Act.put, List.setIfInBounds_toArray, List.set_cons_zero, List.set_cons_succ]
                    refine wpAnyH_ready (rs := [18]) (by kernel_rfl) (by simp) ?_
                    refine AllReadyH.cons (o := { dst := some 180, op := Op.call { callee := Callee.builtin Builtin.append, args := #[Operand.tmp 166, Operand.tmp 179], argTypes := #[27, 27] }, type := 27, pos := "tfm.go:84", after := #[{ on := 4, ground := Ground.data }, { on := 17, ground := Ground.data }], guard := none }) rfl (fun K hK => ?_) AllReadyH.nil
                    refine Kd.R_append_rows_step (Kd.int .u8) (w0 := w) w.heap.size (by rfl) (.tmp 166) (.tmp 179) 27 5 (.int .u8 0) 1 rfl Try.underlying27 info_u8 rfl (by decide) (by omega) (.slice A1 LL.length c1) LL [IntKind.u8.wrap cw, IntKind.u8.wrap chh, IntKind.u8.wrap cd, IntKind.u8.wrap ci] (some ⟨W4.heap.size, 0, none⟩) 4 4 (fun k => k ≠ bo) (fun _ => False) (by rfl) (by rfl) (Kd.R_below HR4.out (below_drew (below_alloc (Below.refl _ _) _))) (blk_C (W := (W4.alloc _).drew) _ (blk_drew (blk_new W4 _)) (by show 4 ≤ 9223372036854775807; omega)) (fun _ _ h => h) (fun _ h => h.elim) (fun k hk => by simp at hk; omega) (HB5.out.trans ((Below.refl _ _).alloc (by have := HB5.out.size; omega) _).drew) (by have := HB5.out.size; simp; omega) (by simp; omega) ?_; intro v1 w1 hR1 hB1 hG1 hat1; obtain ⟨A2, c2, hv2⟩ := Kd.R_slice hR1; subst hv2; have hb1 := aside (blk_grown (blk_drew (blk_alloc HX4.out.1 _)) hG1 HNE.out.1); have hf1 := blk_frozen hb1.out 0; have hn1 := aside (blk_grown (blk_drew (blk_alloc HN.out _)) hG1 HNE.out.2.1); have hk1 := (blk_cell hb1.out 0).trans (show _ = some (.slice A1 LL.length c1) from rfl); have g0 := (blk_cell hn1.out 0).trans (show _ = some (.int .i64 cw) from rfl); have g1 := (blk_cell hn1.out 1).trans (show _ = some (.int .i64 chh) from rfl); have g2 := (blk_cell hn1.out 2).trans (show _ = some (.int .i64 cd) from rfl); have g3 := (blk_cell hn1.out 3).trans (show _ = some (.int .i64 ci) from rfl); have hx1 := aside (blk_grown (blk_drew (blk_alloc HX4.out.2 _)) hG1 HNE.out.2.2)
                    refine hK.out _ _ ?_ (fun hHeld => ?_)
                    · exact ⟨g0, g1, g2, g3⟩
                    clear hK K
                    try simp only [Act.put, List.setIfInBounds_toArray, List.set_cons_zero, List.set_cons_succ]
                    refine wpAnyH_take (i := 19) (oi := { dst := some 181, op := Op.nilCheck (Operand.tmp 162), type := 0, pos := "tfm.go:84", after := #[{ on := 0, ground := Ground.data }, { on := 0, ground := Ground.phase }, { on := 1, ground := Ground.phase }, { on := 2, ground := Ground.phase }, { on := 3, ground := Ground.phase }, { on := 4, ground := Ground.phase }, { on := 5, ground := Ground.phase }, { on := 6, ground := Ground.phase }, { on := 7, ground := Ground.phase }, { on := 8, ground := Ground.phase }, { on := 9, ground := Ground.phase }, { on := 10, ground := Ground.phase }, { on := 11, ground := Ground.phase }, { on := 12, ground := Ground.phase }, { on := 13, ground := Ground.phase }, { on := 14, ground := Ground.phase }, { on := 15, ground := Ground.phase }, { on := 16, ground := Ground.phase }, { on := 17, ground := Ground.phase }, { on := 18, ground := Ground.phase }], guard := none }) (v := ?_) rfl (by kernel_rfl) (by kernel_rfl) (by kernel_rfl) (fun _ _ _ h => h) (Or.inl ⟨by rfl, ?_⟩) (by assumption) ?_
                    rotate_left
                    · intro w hSw; (try dsimp only at hSw); go_simp; (try with_reducible rfl)
                    try simp only [Act.put, List.setIfInBounds_toArray, List.set_cons_zero, List.set_cons_succ]
                    refine wpAnyH_take (i := 20) (oi := { dst := some 182, op := Op.fieldAddr 44 (Operand.tmp 181) 0, type := 0, pos := "tfm.go:84", after := #[{ on := 19, ground := Ground.data }, { on := 0, ground := Ground.phase }, { on := 1, ground := Ground.phase }, { on := 2, ground := Ground.phase }, { on := 3, ground := Ground.phase }, { on := 4, ground := Ground.phase }, { on := 5, ground := Ground.phase }, { on := 6, ground := Ground.phase }, { on := 7, ground := Ground.phase }, { on := 8, ground := Ground.phase }, { on := 9, ground := Ground.phase }, { on := 10, ground := Ground.phase }, { on := 11, ground := Ground.phase }, { on := 12, ground := Ground.phase }, { on := 13, ground := Ground.phase }, { on := 14, ground := Ground.phase }, { on := 15, ground := Ground.phase }, { on := 16, ground := Ground.phase }, { on := 17, ground := Ground.phase }, { on := 18, ground := Ground.phase }], guard := none }) (v := ?_) rfl (by kernel_rfl) (by kernel_rfl) (by kernel_rfl) (fun _ _ _ h => h) (Or.inl ⟨by rfl, ?_⟩) (by assumption) ?_
                    rotate_left
                    · intro w hSw; (try dsimp only at hSw); go_simp; (try with_reducible rfl)
                    try simp only [Act.put, List.setIfInBounds_toArray, List.set_cons_zero, List.set_cons_succ]
                    refine wpAnyH_ready (rs := [21]) (by kernel_rfl) (by simp) ?_
                    refine AllReadyH.cons (o := { dst := none, op := Op.store 27 (Operand.tmp 182) (Operand.tmp 180), type := 0, pos := "tfm.go:84", after := #[{ on := 20, ground := Ground.data }, { on := 18, ground := Ground.data }, { on := 18, ground := Ground.chain }, { on := 0, ground := Ground.phase }, { on := 1, ground := Ground.phase }, { on := 2, ground := Ground.phase }, { on := 3, ground := Ground.phase }, { on := 4, ground := Ground.phase }, { on := 5, ground := Ground.phase }, { on := 6, ground := Ground.phase }, { on := 7, ground := Ground.phase }, { on := 8, ground := Ground.phase }, { on := 9, ground := Ground.phase }, { on := 10, ground := Ground.phase }, { on := 11, ground := Ground.phase }, { on := 12, ground := Ground.phase }, { on := 13, ground := Ground.phase }, { on := 14, ground := Ground.phase }, { on := 15, ground := Ground.phase }, { on := 16, ground := Ground.phase }, { on := 17, ground := Ground.phase }, { on := 18, ground := Ground.phase }], guard := none }) rfl (fun K hK => ?_) AllReadyH.nil
                    go_simp
                    refine hK.out _ _ ?_ (fun hHeld => ?_)
                    · go_keep
                    clear hK K
                    try simp only [Act.put, List.setIfInBounds_toArray, List.set_cons_zero, List.set_cons_succ]
                    refine wpAnyH_done (by kernel_rfl) ?_ _
                    refine NoPanic.normal ?_
                    go_wp2
                    go_roundg (l8.length - (kk + 1))
                    case measure => omega
                    case rel => exact ⟨kk + 1, by omega, by omega, by go_num, by
                                            rw [hsn.out, ← List.append_assoc, hLLA.out, ← hy.out]
                                            rw [List.length_append] at hR1
                                            exact HSr.out.stored hB1 hx1.out hb1.out hR1⟩
                · obtain rfl : kk = l8.length := by omega
                  rw [List.take_length] at HSr
                  clear hlt hkk hg HSe
                  have f9 := HSr.out.cell 9 (.slice A9 l9.length c9) rfl
                  go_wp2_with fail
                  refine (ofixes_any w.heap.size bo _ A9 c9 l9 wr HSr.out.out (Kd.C_below HH.out.2.2.2.2.2.2.1 HSr.out.below) (C_far HH.out.2.2.2.2.2.2.1 HSr.out) (by have := hl1A.out; simp [stepsBytes_length]; omega) (fix_ranges9 HK.out)).mono ?_
                  rintro e w1 ⟨rfl, hO1, hG1⟩
                  have HSf := aside (HSr.out.grown hO1 hG1)
                  clear hO1 hG1 f9
                  have f10 := HSf.out.cell 10 (.slice A10 l10.length c10) rfl
                  go_wp2_with fail
                  refine (ofixes_any w.heap.size bo _ A10 c10 l10 w1 HSf.out.out (Kd.C_below HH.out.2.2.2.2.2.2.2 HSf.out.below) (C_far HH.out.2.2.2.2.2.2.2 HSf.out) (by have := hl1A.out; simp [stepsBytes_length, fixBytes_length]; omega) (fix_ranges10 HK.out)).mono ?_
                  rintro e w2 ⟨rfl, hO2, hG2⟩
                  have HSg := aside (HSf.out.grown hO2 hG2)
                  clear hO2 hG2 f10
                  obtain ⟨v, hv, hb, hR⟩ := HSg.out.out
                  have hcz := (outis_cell hv).1
                  have hRA := aside hR
                  have heq := aside (show L1 ++ stepsBytes l8 ++ fixBytes l9 ++ fixBytes l10 = fontBytes s d f l3 l4 l5 l6 l7 l8 l9 l10 by
                    rw [← hL1A.out, ← hL0A.out]; simp [fontBytes])
                  clear hv hR
                  go_wp2
                  go_ret2
                  exact ⟨_, rfl, by rw [← heq.out]; exact Kd.R_mono hRA.out (fun _ _ => trivial), HSg.out.below⟩
end Go.Proofs.Ytllllmhekdcbiaa
