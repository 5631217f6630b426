/- Few and Word, out of their printed forms; a trie that is nil. -/
import Derived.Test.YtcignolfkocjeaaTrieValues
import Derived.Test.YtcignolfkocjeaaTrieNew
import Derived.Test.YtcignolfkocjeaaPrx1
import Derived.Test.YtcignolfkocjeaaPrx2
set_option linter.unusedVariables false
set_option linter.unusedSimpArgs false
namespace Go.Proofs.Ytcignolfkocjeaa
open Go.RowKit Go.Proofs.YtcignolfkocjeaaW.PrintWords

theorem wrap_small {n : Int} (h0 : 0 ≤ n) (h1 : n ≤ 1000000) : wrap64 n = n := by
  unfold wrap64; omega
theorem few_l1 (l : List PatR) (m : List ExcR) (hm : m.length ≤ 310) : ∀ (n i : Nat), i + n = m.length → ∀ k, n + 1 ≤ k →
    ∃ r, Pr.compositorref10_Few.l1 k i l m = some r ∧ (r = true → ∀ j, i ≤ j → j < m.length → (m.getD j zExc).f0.size ≤ 60)
  | 0, i, hi, k, hk => by
    obtain ⟨k, rfl⟩ : ∃ k', k = k' + 1 := ⟨k - 1, by omega⟩
    refine ⟨true, ?_, fun _ j h1 h2 => by omega⟩
    unfold Pr.compositorref10_Few.l1
    rw [if_neg (by omega)]
  | n + 1, i, hi, k, hk => by
    obtain ⟨k, rfl⟩ : ∃ k', k = k' + 1 := ⟨k - 1, by omega⟩
    unfold Pr.compositorref10_Few.l1
    rw [if_pos (show (i : Int) < (m.length : Int) by omega), if_pos (show (0 : Int) ≤ i by omega), wrap_small (by omega) (by omega)]
    have e : Pr.rd_T59 m i = m.getD i zExc := by show m.getD (Int.toNat i) _ = _; rw [Int.toNat_natCast]
    rw [e]
    by_cases h1 : (((m.getD i zExc).f0.size : Int)) > 60
    · exact ⟨false, by rw [if_pos h1], fun h => by cases h⟩
    · by_cases h2 : (((m.getD i zExc).f1.length : Int)) > 60
      · exact ⟨false, by rw [if_neg h1, if_pos h2], fun h => by cases h⟩
      · obtain ⟨r, hr, hb⟩ := few_l1 l m hm n (i + 1) (by omega) k (by omega)
        refine ⟨r, by rw [if_neg h1, if_neg h2]; exact hr, fun h j hj hj2 => ?_⟩
        rcases Nat.eq_or_lt_of_le hj with rfl | hj
        · omega
        · exact hb h j hj hj2
theorem few_l0 (l : List PatR) (m : List ExcR) (hl : l.length ≤ 310) (hm : m.length ≤ 310) : ∀ (n i : Nat), i + n = l.length → ∀ k, n + m.length + 2 ≤ k →
    ∃ r, Pr.compositorref10_Few.l0 k i l m = some r ∧ (r = true → (∀ j, i ≤ j → j < l.length → (l.getD j zPat).f0.size ≤ 60 ∧ (l.getD j zPat).f1.length ≤ 60) ∧ ∀ j, j < m.length → (m.getD j zExc).f0.size ≤ 60)
  | 0, i, hi, k, hk => by
    obtain ⟨k, rfl⟩ : ∃ k', k = k' + 1 := ⟨k - 1, by omega⟩
    obtain ⟨r, hr, hb⟩ := few_l1 l m hm m.length 0 (by omega) k (by omega)
    refine ⟨r, ?_, fun h => ⟨fun j h1 h2 => by omega, fun j hj => hb h j (Nat.zero_le _) hj⟩⟩
    unfold Pr.compositorref10_Few.l0
    rw [if_neg (by omega)]; exact hr
  | n + 1, i, hi, k, hk => by
    obtain ⟨k, rfl⟩ : ∃ k', k = k' + 1 := ⟨k - 1, by omega⟩
    unfold Pr.compositorref10_Few.l0
    rw [if_pos (show (i : Int) < (l.length : Int) by omega), if_pos (show (0 : Int) ≤ i by omega), wrap_small (by omega) (by omega)]
    have e : Pr.rd_T40 l i = l.getD i zPat := by show l.getD (Int.toNat i) _ = _; rw [Int.toNat_natCast]
    rw [e]
    by_cases h1 : (((l.getD i zPat).f0.size : Int)) > 60
    · exact ⟨false, by rw [if_pos h1], fun h => by cases h⟩
    · by_cases h2 : (((l.getD i zPat).f1.length : Int)) > 60
      · exact ⟨false, by rw [if_neg h1, if_pos h2], fun h => by cases h⟩
      · obtain ⟨r, hr, hb⟩ := few_l0 l m hl hm n (i + 1) (by omega) k (by omega)
        refine ⟨r, by rw [if_neg h1, if_neg h2]; exact hr, fun h => ⟨fun j hj hj2 => ?_, (hb h).2⟩⟩
        rcases Nat.eq_or_lt_of_le hj with rfl | hj
        · omega
        · exact (hb h).1 j hj hj2
theorem few_any (v : Value) (l : List PatR) (m : List ExcR) (w : World) (h : PatsOf w v l m) :
    ∃ r : Bool, (r = true → PatsOk l ∧ ExcsOk m ∧ l.length ≤ 310 ∧ m.length ≤ 310 ∧ ∀ x, x ∈ l → x.f0.size ≤ 60 ∧ x.f1.length ≤ 60) ∧
      ∀ w', Below w.heap.size w w' → Calls Try.prog 15 #[v] w' fun e w'' => e = .returned (.bool r) ∧ Below w'.heap.size w' w'' := by
  obtain ⟨A, c, B, d, rfl, h2, h3, h4, h5⟩ := h
  have key : ∃ k r, Pr.compositorref10_Few.f k l m = some r ∧ (r = true → PatsOk l ∧ ExcsOk m ∧ l.length ≤ 310 ∧ m.length ≤ 310 ∧ ∀ x, x ∈ l → x.f0.size ≤ 60 ∧ x.f1.length ≤ 60) := by
    by_cases h1 : (l.length : Int) > 310
    · refine ⟨1, false, ?_, fun h => by cases h⟩
      unfold Pr.compositorref10_Few.f; rw [if_pos h1]; simp [Pr.compositorref10_Few.j0]
    · by_cases h2 : (m.length : Int) > 310
      · refine ⟨1, false, ?_, fun h => by cases h⟩
        unfold Pr.compositorref10_Few.f; rw [if_neg h1, decide_eq_true h2]; simp [Pr.compositorref10_Few.j0]
      · obtain ⟨r, hr, hb⟩ := few_l0 l m (by omega) (by omega) l.length 0 (by omega) (l.length + m.length + 2) (Nat.le_refl _)
        refine ⟨l.length + m.length + 3, r, ?_, fun h => ⟨fun j => ?_, fun j => ?_, by omega, by omega, fun x hx => ?_⟩⟩
        · unfold Pr.compositorref10_Few.f; rw [if_neg h1, decide_eq_false h2]; simp only [Pr.compositorref10_Few.j0, Bool.false_eq_true, if_false]; exact hr
        · by_cases hj : j < l.length
          · have := ((hb h).1 j (Nat.zero_le _) hj).1; omega
          · rw [List.getD_eq_getElem?_getD, List.getElem?_eq_none (by omega)]; show (zPat.f0).size ≤ _; decide
        · by_cases hj : j < m.length
          · have := (hb h).2 j hj; omega
          · rw [List.getD_eq_getElem?_getD, List.getElem?_eq_none (by omega)]; show (zExc.f0).size ≤ _; decide
        · obtain ⟨j, hj, rfl⟩ := List.getElem_of_mem hx
          have := (hb h).1 j (Nat.zero_le _) hj
          rw [List.getD_eq_getElem?_getD, List.getElem?_eq_getElem hj] at this
          exact this
  obtain ⟨k, r, hr, hb⟩ := key
  exact ⟨r, hb, fun w' hw => Pr.compositorref10_Few.calls k A c l B d m r w' (Kd.C_below h4 hw) h2 (Kd.C_below h5 hw) h3 hr⟩

theorem bt_bytes (s : ByteArray) (i : Nat) (hi : i < s.size) : bt s i = (bytesOf s).getD i 0 := by
  have e : (bytesOf s)[i]? = some ((s[i]'hi).toNat : Int) := by
    have := bytesOf_drop s i hi
    rw [← List.head?_drop, this]; rfl
  unfold bt
  simp only [Int.toNat_natCast]
  rw [dif_pos hi, List.getD_eq_getElem?_getD, e]; rfl
theorem word_l0 (s : ByteArray) (hs : s.size ≤ 40) : ∀ (n i : Nat), i + n = s.size → ∀ k, n + 1 ≤ k → Pr.compositorref11_Word.l0 k s i = some (lowB ((bytesOf s).drop i))
  | 0, i, hi, k, hk => by
    obtain ⟨k, rfl⟩ : ∃ k', k = k' + 1 := ⟨k - 1, by omega⟩
    unfold Pr.compositorref11_Word.l0
    rw [if_neg (by omega), List.drop_of_length_le (by rw [bytesOf_length]; omega)]; rfl
  | n + 1, i, hi, k, hk => by
    obtain ⟨k, rfl⟩ : ∃ k', k = k' + 1 := ⟨k - 1, by omega⟩
    unfold Pr.compositorref11_Word.l0
    have hd : (bytesOf s).drop i = (bytesOf s).getD i 0 :: (bytesOf s).drop (i + 1) := by
      have hl : i < (bytesOf s).length := by rw [bytesOf_length]; omega
      rw [List.drop_eq_getElem_cons hl, List.getD_eq_getElem?_getD, List.getElem?_eq_getElem hl]; rfl
    rw [if_pos (show (i : Int) < (s.size : Int) by omega), if_pos (show (0 : Int) ≤ i by omega), wrap_small (by omega) (by omega), bt_bytes s i (by omega), hd]
    generalize (bytesOf s).getD i 0 = x
    have ih := word_l0 s hs n (i + 1) (by omega) k (by omega)
    by_cases h1 : x < 97
    · rw [if_pos h1]; simp only [lowB, List.all_cons, decide_eq_false (show ¬ 97 ≤ x by omega), Bool.false_and]
    · by_cases h2 : x > 122
      · rw [if_neg h1, if_pos h2]; simp only [lowB, List.all_cons, decide_eq_false (show ¬ x ≤ 122 by omega), Bool.and_false, Bool.false_and]
      · rw [if_neg h1, if_neg h2]
        have e : lowB (x :: (bytesOf s).drop (i + 1)) = lowB ((bytesOf s).drop (i + 1)) := by
          simp only [lowB, List.all_cons, decide_eq_true (show 97 ≤ x by omega), decide_eq_true (show x ≤ 122 by omega), Bool.true_and]
        rw [e]; exact ih
theorem word_any (s : ByteArray) (w : World) : Calls Try.prog 23 #[.string s] w fun e w' => e = .returned (.bool (plainB s)) ∧ Below w.heap.size w w' := by
  have key : ∃ k, Pr.compositorref11_Word.f k s = some (plainB s) := by
    by_cases h1 : (s.size : Int) < 1
    · refine ⟨1, ?_⟩
      unfold Pr.compositorref11_Word.f; rw [if_pos h1]; simp only [Pr.compositorref11_Word.j0, if_true]; congr 1
      unfold plainB; rw [decide_eq_false (show ¬ 1 ≤ (s.size : Int) by omega), Bool.and_false, Bool.false_and]
    · by_cases h2 : (s.size : Int) > 40
      · refine ⟨1, ?_⟩
        unfold Pr.compositorref11_Word.f; rw [if_neg h1, decide_eq_true h2]; simp only [Pr.compositorref11_Word.j0, if_true]; congr 1
        unfold plainB; rw [decide_eq_false (show ¬ (s.size : Int) ≤ 40 by omega), Bool.and_false]
      · refine ⟨s.size + 2, ?_⟩
        unfold Pr.compositorref11_Word.f; rw [if_neg h1, decide_eq_false h2]; simp only [Pr.compositorref11_Word.j0, Bool.false_eq_true, if_false]
        have := word_l0 s (by omega) s.size 0 (by omega) (s.size + 1) (Nat.le_refl _)
        rw [List.drop_zero] at this
        unfold plainB; rw [decide_eq_true (show 1 ≤ (s.size : Int) by omega), decide_eq_true (show (s.size : Int) ≤ 40 by omega), Bool.and_true, Bool.and_true]
        exact this
  obtain ⟨k, hk⟩ := key
  refine (Pr.compositorref11_Word.calls k s (plainB s) w hk).mono fun e w' ⟨h1, h2⟩ => ⟨h1, ?_⟩
  exact h2.below
theorem nodes_nil (w : World) : Calls Try.prog 19 #[.pointer none] w fun e w' => e = .returned (.int .i64 0) ∧ w' = w := by
  go_enter Try.func19, Try.ntmps19
  go_wp2
  go_ret
  exact ⟨rfl, rfl⟩
theorem values_nil (s : ByteArray) (w : World) : Calls Try.prog 18 #[.pointer none, .string s] w fun e w' => e = .returned (.slice none 0 0) ∧ w' = w := by
  go_enter Try.func18, Try.ntmps18
  go_wp2
  go_ret
  exact ⟨rfl, rfl⟩
end Go.Proofs.Ytcignolfkocjeaa
