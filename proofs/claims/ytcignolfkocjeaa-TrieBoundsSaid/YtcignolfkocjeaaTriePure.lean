/- A trie's nodes, as plain lists: where each lies, how long its row is. -/
import Derived.Test.YtcignolfkocjeaaTriePut
set_option linter.unusedVariables false
set_option linter.unusedSimpArgs false
namespace Go.Proofs.Ytcignolfkocjeaa
open Go.RowKit Go.Proofs.YtcignolfkocjeaaW.PrintWords

def SInv (S : List ((Int × Int) × Int)) (N : Int) (path : Int → List Int) : Prop :=
  path 0 = [] ∧ 1 ≤ N ∧ ∀ e, e ∈ S → (0 ≤ e.1.1 ∧ e.1.1 < N) ∧ (0 ≤ e.2 ∧ e.2 < N) ∧ path e.2 = path e.1.1 ++ [e.1.2]
def VInv (V : List (Int × List Int)) (N : Int) (path : Int → List Int) : Prop :=
  ∀ e, e ∈ V → (0 ≤ e.1 ∧ e.1 < N) ∧ e.2.length = (path e.1).length + 1 ∧ ∀ n, n ∈ e.2 → 0 ≤ n ∧ n ≤ 9
theorem SInv.ok {S : List ((Int × Int) × Int)} {N : Int} {path : Int → List Int} (h : SInv S N path) : StepsOk S N := fun e he => (h.2.2 e he).2.1
theorem lkS_mem {S : List ((Int × Int) × Int)} {a x n : Int} (hl : lkS S a x = some n) : ((a, x), n) ∈ S := by
  unfold lkS at hl
  obtain ⟨e, he, rfl⟩ := Option.map_eq_some_iff.1 hl
  have h1 := List.mem_of_find?_eq_some he
  have h2 := List.find?_some he
  simp only [decide_eq_true_eq] at h2
  rw [← h2]; exact h1
theorem lkV_mem {V : List (Int × List Int)} {a : Int} {xs : List Int} (hl : lkV V a = some xs) : (a, xs) ∈ V := by
  unfold lkV at hl
  obtain ⟨e, he, rfl⟩ := Option.map_eq_some_iff.1 hl
  have h1 := List.mem_of_find?_eq_some he
  have h2 := List.find?_some he
  simp only [decide_eq_true_eq] at h2
  rw [← h2]; exact h1
theorem stepsIn_inv : ∀ (l : List Int) (S : List ((Int × Int) × Int)) (N at_ : Int) (path : Int → List Int), SInv S N path → 0 ≤ at_ → at_ < N →
    ∃ path', SInv (stepsIn l S N at_).1 (stepsIn l S N at_).2.1 path' ∧ (∀ a, a < N → path' a = path a) ∧ path' (stepsIn l S N at_).2.2 = path at_ ++ l ∧ 0 ≤ (stepsIn l S N at_).2.2 ∧ (stepsIn l S N at_).2.2 < (stepsIn l S N at_).2.1 ∧ N ≤ (stepsIn l S N at_).2.1 ∧ (stepsIn l S N at_).2.1 ≤ N + l.length
  | [], S, N, at_, path, h, h0, h1 => ⟨path, h, fun _ _ => rfl, by simp [stepsIn], h0, h1, Int.le_refl _, by simp [stepsIn]⟩
  | b :: l, S, N, at_, path, h, h0, h1 => by
    cases hl : lkS S at_ b with
    | some n =>
      obtain ⟨k1, k2, k3⟩ := h.2.2 _ (lkS_mem hl)
      obtain ⟨p', g1, g2, g3, g4, g5, g6, g7⟩ := stepsIn_inv l S N n path h k2.1 k2.2
      simp only [stepsIn, hl]
      refine ⟨p', g1, g2, ?_, g4, g5, g6, by simp only [List.length_cons]; omega⟩
      rw [g3, k3, List.append_assoc]; rfl
    | none =>
      have hS : SInv (S ++ [((at_, b), N)]) (N + 1) (fun a => if a = N then path at_ ++ [b] else path a) := by
        refine ⟨?_, by have := h.2.1; omega, fun e he => ?_⟩
        · simp only; rw [if_neg (by have := h.2.1; omega)]; exact h.1
        · rcases List.mem_append.1 he with he | he
          · obtain ⟨k1, k2, k3⟩ := h.2.2 e he
            refine ⟨⟨k1.1, by omega⟩, ⟨k2.1, by omega⟩, ?_⟩
            simp only
            rw [if_neg (by omega), if_neg (by omega)]; exact k3
          · rw [List.mem_singleton.1 he]
            refine ⟨⟨h0, by simp only; omega⟩, ⟨by simp only; omega, by simp only; omega⟩, ?_⟩
            simp only
            rw [if_pos trivial, if_neg (by omega)]
      obtain ⟨p', g1, g2, g3, g4, g5, g6, g7⟩ := stepsIn_inv l (S ++ [((at_, b), N)]) (N + 1) N _ hS (by omega) (by omega)
      simp only [stepsIn, hl]
      refine ⟨p', g1, fun a ha => ?_, ?_, g4, g5, by omega, by simp only [List.length_cons]; omega⟩
      · rw [g2 a (by omega), if_neg (by omega)]
      · rw [g3]; simp
theorem zipMax_digs {v : List Int} : ∀ {xs ys : List Int}, (∀ n, n ∈ xs → 0 ≤ n ∧ n ≤ 9) → (∀ n, n ∈ ys → 0 ≤ n ∧ n ≤ 9) → ∀ n, n ∈ zipMax xs ys → 0 ≤ n ∧ n ≤ 9
  | [], ys, _, _, n, hn => by simp [zipMax] at hn
  | x :: xs, [], h1, _, n, hn => h1 n (by simpa [zipMax] using hn)
  | x :: xs, y :: ys, h1, h2, n, hn => by
    simp only [zipMax, List.mem_cons] at hn
    rcases hn with rfl | hn
    · have := h1 x (by simp); have := h2 y (by simp); omega
    · exact zipMax_digs (v := v) (fun m hm => h1 m (by simp [hm])) (fun m hm => h2 m (by simp [hm])) n hn
/-- What a pattern is that may be. -/
def PatGood (x : PatR) : Prop := x.f0.size ≤ 42 ∧ x.f1.length = x.f0.size + 1 ∧ ∀ n, n ∈ x.f1 → 0 ≤ n ∧ n ≤ 9
def TInv (T : TrieS) (path : Int → List Int) : Prop := SInv T.S T.N path ∧ VInv T.V T.N path
theorem TInv.empty : TInv emptyT (fun _ => []) := ⟨⟨rfl, by simp [emptyT], by simp [emptyT]⟩, by simp [VInv, emptyT]⟩
theorem TInv.put {T : TrieS} {path : Int → List Int} (h : TInv T path) {x : PatR} (hx : PatGood x) :
    ∃ path', TInv (putT T (bytesOf x.f0) x.f1) path' ∧ (∀ a, a < T.N → path' a = path a) ∧ T.N ≤ (putT T (bytesOf x.f0) x.f1).N ∧ (putT T (bytesOf x.f0) x.f1).N ≤ T.N + x.f0.size ∧
      ∀ old, lkV T.V (stepsIn (bytesOf x.f0) T.S T.N 0).2.2 = some old → old.length = x.f1.length := by
  obtain ⟨p', g1, g2, g3, g4, g5, g6, g7⟩ := stepsIn_inv (bytesOf x.f0) T.S T.N 0 path h.1 (Int.le_refl _) (by have := h.1.2.1; omega)
  have hlen : (p' (stepsIn (bytesOf x.f0) T.S T.N 0).2.2).length = x.f0.size := by rw [g3, h.1.1]; simp [bytesOf_length]
  have hold : ∀ old, lkV T.V (stepsIn (bytesOf x.f0) T.S T.N 0).2.2 = some old → old.length = x.f1.length := by
    intro old ho
    obtain ⟨k1, k2, _⟩ := h.2 _ (lkV_mem ho)
    rw [k2, ← g2 _ k1.2, hlen, hx.2.1]
  refine ⟨p', ⟨g1, ?_⟩, g2, g6, by rw [bytesOf_length] at g7; exact g7, hold⟩
  have hV : VInv T.V (stepsIn (bytesOf x.f0) T.S T.N 0).2.1 p' := fun e he => by
    obtain ⟨k1, k2, k3⟩ := h.2 e he
    exact ⟨⟨k1.1, by omega⟩, by rw [g2 _ k1.2]; exact k2, k3⟩
  intro e he
  unfold putT at he
  simp only at he
  unfold putV at he
  cases hl : lkV T.V (stepsIn (bytesOf x.f0) T.S T.N 0).2.2 with
  | none =>
    rw [hl] at he
    rcases List.mem_append.1 he with he | he
    · exact hV e he
    · rw [List.mem_singleton.1 he]
      exact ⟨⟨g4, g5⟩, by simp only; rw [hlen, hx.2.1], hx.2.2⟩
  | some old =>
    rw [hl] at he
    obtain ⟨e0, he0, rfl⟩ := List.mem_map.1 he
    obtain ⟨k1, k2, k3⟩ := hV e0 he0
    split
    · exact ⟨k1, by simp only [zipMax_length]; exact k2, fun n hn => zipMax_digs (v := []) k3 hx.2.2 n hn⟩
    · exact ⟨k1, k2, k3⟩
theorem buildT_snoc (L : List PatR) (x : PatR) : buildT (L ++ [x]) = putT (buildT L) (bytesOf x.f0) x.f1 := by simp [buildT]
def sizes (L : List PatR) : Nat := (L.map fun x => x.f0.size).sum
theorem sizes_snoc (L : List PatR) (x : PatR) : sizes (L ++ [x]) = sizes L + x.f0.size := by simp [sizes]
theorem TInv.fold : ∀ (L : List PatR) (T : TrieS) (path : Int → List Int), TInv T path → (∀ x, x ∈ L → PatGood x) →
    ∃ path', TInv (L.foldl (fun T x => putT T (bytesOf x.f0) x.f1) T) path' ∧ (L.foldl (fun T x => putT T (bytesOf x.f0) x.f1) T).N ≤ T.N + sizes L
  | [], T, path, h, _ => ⟨path, h, by simp [sizes]⟩
  | x :: L, T, path, h, hL => by
    obtain ⟨p', g1, g2, g3, g4, g5⟩ := h.put (hL x (by simp))
    obtain ⟨p'', k1, k2⟩ := TInv.fold L _ p' g1 (fun y hy => hL y (by simp [hy]))
    refine ⟨p'', k1, ?_⟩
    simp only [List.foldl_cons, sizes, List.map_cons, List.sum_cons] at *
    omega
theorem TInv.build (L : List PatR) (h : ∀ x, x ∈ L → PatGood x) : ∃ path, TInv (buildT L) path ∧ (buildT L).N ≤ 1 + sizes L := TInv.fold L emptyT _ TInv.empty h
theorem sizes_le : ∀ (L : List PatR), (∀ x, x ∈ L → PatGood x) → sizes L ≤ 42 * L.length
  | [], _ => by simp [sizes]
  | x :: L, h => by
    have h1 := sizes_le L (fun y hy => h y (by simp [hy]))
    have h2 := (h x (by simp)).1
    simp only [sizes, List.map_cons, List.sum_cons, List.length_cons] at *
    omega
end Go.Proofs.Ytcignolfkocjeaa
