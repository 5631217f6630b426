/- trie's plain, walked: whether a word may be asked of. -/
import Derived.Test.YtcignolfkocjeaaTrieMade2
import Derived.Test.YtcignolfkocjeaaIdxByte
set_option linter.unusedVariables false
set_option linter.unusedSimpArgs false
namespace Go.Proofs.Ytcignolfkocjeaa
open Go.RowKit Go.Proofs.YtcignolfkocjeaaW.PrintWords

def offB (x : Int) : Bool := decide (x < 97) || decide (122 < x)
theorem offb_any (x : Int) (w : World) : Calls Try.prog 51 #[.int .u8 x] w fun e w' => e = .returned (.bool (offB x)) ∧ w' = w := by
  by_cases h1 : x < 97
  · go_enter Try.func51, Try.ntmps51
    go_wp2
    go_ret
    exact ⟨by unfold offB; rw [decide_eq_true h1]; rfl, rfl⟩
  · by_cases h2 : 122 < x
    all_goals
      go_enter Try.func51, Try.ntmps51
      go_wp2
      go_ret
      exact ⟨by unfold offB; rw [decide_eq_false (show ¬ x < 97 by omega)]; first | (rw [decide_eq_true (show 122 < x by omega)]; rfl) | (rw [decide_eq_false (show ¬ 122 < x by omega)]; rfl), rfl⟩
theorem offs_any (A : Option Addr) (c : Nat) (l : List Int) (w : World) (hC : (Kd.int .u8).C w A l.length l) :
    Calls Try.prog 50 #[.slice A l.length c, .func (.func 51) #[] #[]] w fun e w' => e = .returned (.bool (anyOf (fun j => offB (l.getD j 0)) 0 l.length)) ∧ Below w.heap.size w w' :=
  contains_Byte 51 #[] (enters_of Try.func51 (by kernel_rfl) rfl) A l.length c (fun j => .int .u8 (l.getD j 0)) (fun j => offB (l.getD j 0)) w hC.2.1 (int_cells' hC)
    (fun j hj W hW => (offb_any (l.getD j 0) W).mono fun e w' ⟨h1, h2⟩ => ⟨h1, by rw [h2]; exact Below.refl _ _⟩)
theorem offs_low (l : List Int) : anyOf (fun j => offB (l.getD j 0)) 0 l.length = !lowB l := by
  have key : anyOf (fun j => offB (l.getD j 0)) 0 l.length = false ↔ lowB l = true := by
    rw [anyOf_false]
    unfold lowB
    rw [List.all_eq_true]
    constructor
    · intro h x hx
      obtain ⟨j, hj, rfl⟩ := List.getElem_of_mem hx
      have := h j (Nat.zero_le _) (by omega)
      rw [List.getD_eq_getElem?_getD, List.getElem?_eq_getElem hj] at this
      simp only [Option.getD_some, offB, Bool.or_eq_false_iff, decide_eq_false_iff_not] at this
      simp only [Bool.and_eq_true, decide_eq_true_eq]
      omega
    · intro h j _ hj
      have := h (l[j]'(by omega)) (List.getElem_mem _)
      simp only [Bool.and_eq_true, decide_eq_true_eq] at this
      rw [List.getD_eq_getElem?_getD, List.getElem?_eq_getElem (by omega)]
      simp only [Option.getD_some, offB, Bool.or_eq_false_iff, decide_eq_false_iff_not]
      omega
  cases h : lowB l with
  | true => exact key.2 h
  | false =>
    cases h' : anyOf (fun j => offB (l.getD j 0)) 0 l.length with
    | true => rfl
    | false => rw [key.1 h'] at h; cases h
theorem tplain_any (s : ByteArray) (w : World) (hs : s.size ≤ 60) : Calls Try.prog 34 #[.string s] w fun e w' => e = .returned (.bool (plainB s)) ∧ Below w.heap.size w w' := by
  have hnot : ∀ (x : Bool) (w : World), (Op.unary .not (.bool x)).run Try.prog w = .ok (.bool (!x)) w := fun _ _ => rfl
  by_cases h1 : 1 ≤ s.size
  · by_cases h2 : s.size ≤ 40
    · have kb := fun W => print_bytes (P := Try.prog) 9 54 5 Try.underlying9 Try.underlying54 Try.underlying5 s W
      have h1' : (1 : Int) ≤ s.size := by omega
      have h2' : (s.size : Int) ≤ 40 := by omega
      have HC := aside (offs_any (some ⟨w.heap.size, 0, none⟩) (grownCap w s.size 0 5) (bytesOf s) (Lib.bytesWorld w 5 s) (by
        have := Kd.C_of_reads (d := (0 : Int)) (enc := Value.int .u8) (h1 := fun _ => rfl) (bytes_reads w 5 s (by omega))
        rw [bytesOf_length]; exact this))
      rw [bytesOf_length, ← bytesOf_length, offs_low, bytesOf_length] at HC
      have HP := aside (show plainB s = lowB (bytesOf s) from by unfold plainB; rw [decide_eq_true h1', decide_eq_true h2']; simp)
      have HB := aside (bytes_below (Below.refl w.heap.size w) (Nat.le_refl _) 5 s)
      generalize lowB (bytesOf s) = q at HC HP
      cases q
      all_goals
        go_enter Try.func34, Try.ntmps34
        go_wp2_with (go_at_call 50; refine HC.out.mono ?_; rintro e w' ⟨rfl, hb'⟩)
        go_ret
        exact ⟨by rw [HP.out]; try rfl, below_next HB.out hb'⟩
    · have h1' : (1 : Int) ≤ s.size := by omega
      have h2' : ¬ (s.size : Int) ≤ 40 := by omega
      go_enter Try.func34, Try.ntmps34
      go_wp2
      go_ret
      exact ⟨by unfold plainB; rw [decide_eq_false (show ¬ (s.size : Int) ≤ 40 by omega), Bool.and_false]; rfl, Below.refl _ _⟩
  · have h1' : ¬ (1 : Int) ≤ s.size := by omega
    go_enter Try.func34, Try.ntmps34
    go_wp2
    go_ret
    exact ⟨by unfold plainB; rw [decide_eq_false (show ¬ 1 ≤ (s.size : Int) by omega), Bool.and_false, Bool.false_and]; rfl, Below.refl _ _⟩
end Go.Proofs.Ytcignolfkocjeaa
