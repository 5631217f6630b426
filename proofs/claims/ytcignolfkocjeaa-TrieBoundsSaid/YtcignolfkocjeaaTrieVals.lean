/- A word's numbers, as plain lists. -/
import Derived.Test.YtcignolfkocjeaaTriePlain
set_option linter.unusedVariables false
set_option linter.unusedSimpArgs false
namespace Go.Proofs.Ytcignolfkocjeaa
open Go.RowKit Go.Proofs.YtcignolfkocjeaaW.PrintWords

def rowTo (all : List Int) (i : Nat) (xs : List Int) : Nat → List Int
  | 0 => all
  | k + 1 => (rowTo all i xs k).set (i + k) (max ((rowTo all i xs k).getD (i + k) 0) (xs.getD k 0))
def stepTo (T : TrieS) (all : List Int) (i : Nat) (n : Int) : List Int := match lkV T.V n with
  | none => all
  | some xs => rowTo all i xs xs.length
def walkTo (T : TrieS) (i : Nat) : List Int → Int → List Int → List Int
  | [], _, all => all
  | b :: r, at_, all => match lkS T.S at_ b with
    | none => all
    | some n => walkTo T i r n (stepTo T all i n)
def allTo (T : TrieS) (s : List Int) : Nat → List Int
  | 0 => List.replicate (s.length + 1) 0
  | i + 1 => walkTo T i (s.drop i) 0 (allTo T s i)
def valuesT (T : TrieS) (s : List Int) : List Int := ((allTo T s s.length).take s.length).drop 1
def dotS (s : List Int) : List Int := 46 :: s ++ [46]
def valuesS (L : List PatR) (s : ByteArray) : List Int := if plainB s then valuesT (buildT L) (dotS (bytesOf s)) else []

theorem rowTo_length (all : List Int) (i : Nat) (xs : List Int) : ∀ k, (rowTo all i xs k).length = all.length
  | 0 => rfl
  | k + 1 => by simp [rowTo, rowTo_length all i xs k]
theorem stepTo_length (T : TrieS) (all : List Int) (i : Nat) (n : Int) : (stepTo T all i n).length = all.length := by
  unfold stepTo; split
  · rfl
  · exact rowTo_length _ _ _ _
theorem walkTo_length (T : TrieS) (i : Nat) : ∀ (r : List Int) (at_ : Int) (all : List Int), (walkTo T i r at_ all).length = all.length
  | [], _, all => rfl
  | b :: r, at_, all => by
    simp only [walkTo]; split
    · rfl
    · rw [walkTo_length T i r, stepTo_length]
theorem allTo_length (T : TrieS) (s : List Int) : ∀ i, (allTo T s i).length = s.length + 1
  | 0 => by simp [allTo]
  | i + 1 => by simp only [allTo]; rw [walkTo_length, allTo_length T s i]
def Digs (l : List Int) : Prop := ∀ n, n ∈ l → 0 ≤ n ∧ n ≤ 9
theorem digs_getD {l : List Int} (h : Digs l) (k : Nat) : 0 ≤ l.getD k 0 ∧ l.getD k 0 ≤ 9 := by
  rw [List.getD_eq_getElem?_getD]
  cases hl : l[k]? with
  | none => simp
  | some x => exact h x (List.mem_of_getElem? hl)
theorem rowTo_digs {all : List Int} {i : Nat} {xs : List Int} (h1 : Digs all) (h2 : Digs xs) : ∀ k, Digs (rowTo all i xs k)
  | 0 => h1
  | k + 1 => fun n hn => by
    have ih := rowTo_digs h1 h2 k (i := i)
    rcases List.mem_or_eq_of_mem_set hn with hn | rfl
    · exact ih n hn
    · have := digs_getD ih (i + k); have := digs_getD h2 k; omega
theorem stepTo_digs {T : TrieS} {path : Int → List Int} (hT : TInv T path) {all : List Int} (h1 : Digs all) (i : Nat) (n : Int) : Digs (stepTo T all i n) := by
  unfold stepTo; split
  · exact h1
  · next xs h => exact rowTo_digs h1 (hT.2 _ (lkV_mem h)).2.2 _
theorem walkTo_digs {T : TrieS} {path : Int → List Int} (hT : TInv T path) (i : Nat) : ∀ (r : List Int) (at_ : Int) (all : List Int), Digs all → Digs (walkTo T i r at_ all)
  | [], _, all, h => h
  | b :: r, at_, all, h => by
    simp only [walkTo]; split
    · exact h
    · exact walkTo_digs hT i r _ _ (stepTo_digs hT h i _)
theorem allTo_digs {T : TrieS} {path : Int → List Int} (hT : TInv T path) (s : List Int) : ∀ i, Digs (allTo T s i)
  | 0 => fun n hn => by simp only [allTo, List.mem_replicate] at hn; omega
  | i + 1 => walkTo_digs hT i _ _ _ (allTo_digs hT s i)
theorem valuesT_length (T : TrieS) (s : List Int) : (valuesT T s).length = s.length - 1 := by
  unfold valuesT; rw [List.length_drop, List.length_take, allTo_length]; omega
theorem valuesT_digs {T : TrieS} {path : Int → List Int} (hT : TInv T path) (s : List Int) : Digs (valuesT T s) :=
  fun n hn => allTo_digs hT s s.length n (List.mem_of_mem_take (List.mem_of_mem_drop hn))
/-- A row fits where it lies. -/
theorem row_fits {T : TrieS} {path : Int → List Int} (hT : TInv T path) {n : Int} {xs : List Int} (h : lkV T.V n = some xs) : xs.length = (path n).length + 1 := (hT.2 _ (lkV_mem h)).2.1
theorem step_path {T : TrieS} {path : Int → List Int} (hT : TInv T path) {a b n : Int} (h : lkS T.S a b = some n) : (0 ≤ n ∧ n < T.N) ∧ (path n).length = (path a).length + 1 := by
  obtain ⟨_, h2, h3⟩ := hT.1.2.2 _ (lkS_mem h)
  exact ⟨h2, by rw [h3]; simp⟩
end Go.Proofs.Ytcignolfkocjeaa
