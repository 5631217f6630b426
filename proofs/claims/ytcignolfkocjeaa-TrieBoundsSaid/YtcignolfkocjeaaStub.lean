/- Contracts of this session's own in the form that the printed functions ask of a callee. -/
import Derived.Test.YtcignolfkocjeaaPrx0
import Derived.Test.YtcignolfkocjeaaLiang1
set_option linter.unusedVariables false
set_option linter.unusedSimpArgs false
namespace Go.Proofs.Ytcignolfkocjeaa
open Go.RowKit Go.Proofs.YtcignolfkocjeaaW.PrintWords

theorem bytesOf_inj {s t : ByteArray} (h : bytesOf s = bytesOf t) : s = t := by
  have h2 : s.data.toList = t.data.toList := by
    unfold bytesOf at h
    have h3 : (s.data.toList.map fun b : UInt8 => (b.toNat : Int)) = t.data.toList.map fun b : UInt8 => (b.toNat : Int) := h
    exact (List.map_inj_right fun a b hab => UInt8.toNat_inj.1 (by omega)).1 h3
  cases s; cases t
  congr 1
  exact Array.toList_inj.1 h2
def dottedU (l : List UInt8) : List UInt8 := match l with | [] => [] | x :: r => if x = 46 then r else x :: r
theorem map_dottedU (l : List UInt8) : (dottedU l).map (fun b : UInt8 => (b.toNat : Int)) = dotted (l.map fun b : UInt8 => (b.toNat : Int)) := by
  cases l with
  | nil => rfl
  | cons x r =>
    have h := eq46 (x := x)
    simp only [dottedU, dotted, List.map_cons]
    by_cases hx : x = 46
    · subst hx; rfl
    · rw [if_neg hx]
      have hx2 : ¬ (x.toNat : Int) = 46 := by
        intro h2; rw [decide_eq_true h2] at h; simp at h; exact hx h
      rw [if_neg hx2]; rfl
/-- A text without a dot ahead, and one behind. -/
def coreS (s : ByteArray) : ByteArray := ⟨((dottedU (dottedU s.data.toList).reverse).reverse).toArray⟩
theorem coreS_bytes (s : ByteArray) : bytesOf (coreS s) = coreL (bytesOf s) := by
  unfold coreS bytesOf coreL
  simp only [List.toList_toArray, List.map_reverse, map_dottedU]
theorem coreS_of {s t : ByteArray} (h : bytesOf t = coreL (bytesOf s)) : coreS s = t := bytesOf_inj ((coreS_bytes s).trans h.symm)
theorem lead_yes {s : ByteArray} (hn : 0 < s.size) (h : ((s[0]'hn).toNat : Int) = 46) : bytesOf (s.extract 1 s.size) = dotted (bytesOf s) := by
  apply pre_yes
  rw [ByteArray.toList_eq, extract_list]
  have hl := data_length s
  cases hd : s.data.toList with
  | nil => rw [hd] at hl; simp at hl; omega
  | cons x r =>
    have : s[0] = x := by
      show s.data[0] = x
      have := Array.getElem_toList (xs := s.data) (i := 0) (h := hn)
      rw [← this]; simp [hd]
    simp only [List.drop_zero, Nat.sub_zero, List.take_succ_cons, List.take_zero]
    rw [eq46, decide_eq_true_eq, ← this]; exact h
theorem lead_no {s : ByteArray} (hn : 0 < s.size) (h : ¬ ((s[0]'hn).toNat : Int) = 46) : bytesOf s = dotted (bytesOf s) := by
  apply pre_no
  left
  rw [ByteArray.toList_eq, extract_list]
  have hl := data_length s
  cases hd : s.data.toList with
  | nil => rw [hd] at hl; simp at hl; omega
  | cons x r =>
    have : s[0] = x := by
      show s.data[0] = x
      have := Array.getElem_toList (xs := s.data) (i := 0) (h := hn)
      rw [← this]; simp [hd]
    simp only [List.drop_zero, Nat.sub_zero, List.take_succ_cons, List.take_zero]
    rw [eq46, decide_eq_false_iff_not, ← this]; exact h
theorem tail_at {s : ByteArray} {m : Nat} (hm : s.size = m + 1) (hn : m < s.size) : (s.extract (s.size - 1) s.size).toList = [s[m]'hn] := by
  rw [ByteArray.toList_eq, extract_list]
  have hl := data_length s
  have h1 : s.data.toList.drop (s.size - 1) = [s[m]'hn] := by
    have e : s.size - 1 = m := by omega
    rw [e, List.drop_eq_getElem_cons (by omega), List.drop_of_length_le (by omega)]
    simp; rfl
  rw [h1, show s.size - (s.size - 1) = 1 by omega]; rfl
theorem last_yes {s : ByteArray} {m : Nat} (hm : s.size = m + 1) (hn : m < s.size) (h : ((s[m]'hn).toNat : Int) = 46) : bytesOf (s.extract 0 m) = (dotted (bytesOf s).reverse).reverse := by
  have := suf_yes (s := s) (by omega) (by rw [tail_at hm hn, eq46, decide_eq_true_eq]; exact h)
  rw [show s.size - 1 = m by omega] at this
  exact this
theorem last_no {s : ByteArray} {m : Nat} (hm : s.size = m + 1) (hn : m < s.size) (h : ¬ ((s[m]'hn).toNat : Int) = 46) : bytesOf s = (dotted (bytesOf s).reverse).reverse :=
  suf_no (.inl (by rw [tail_at hm hn, eq46, decide_eq_false_iff_not]; exact h))

/-- The second half: a dot behind. -/
theorem core2_any (s t : ByteArray) (h : bytesOf t = dotted (bytesOf s)) (h1 : t.size ≤ 9223372036854775807) : (t.size = 0 ∧ coreS s = t) ∨ (∃ m : Nat, ∃ hn : m < t.size, t.size = m + 1 ∧ (((t[m]'hn).toNat : Int) = 46 ∧ coreS s = t.extract 0 m ∨ ¬ ((t[m]'hn).toNat : Int) = 46 ∧ coreS s = t)) := by
  rcases Nat.eq_zero_or_pos t.size with h0 | h0
  · refine .inl ⟨h0, coreS_of ?_⟩
    unfold coreL; rw [← h]; exact suf_no (.inr (by omega))
  · right
    refine ⟨t.size - 1, by omega, by omega, ?_⟩
    have hm : t.size = (t.size - 1) + 1 := by omega
    by_cases hc : ((t[t.size - 1]'(by omega)).toNat : Int) = 46
    · refine .inl ⟨hc, coreS_of ?_⟩
      unfold coreL; rw [← h]; exact last_yes hm (by omega) hc
    · refine .inr ⟨hc, coreS_of ?_⟩
      unfold coreL; rw [← h]; exact last_no hm (by omega) hc

set_option maxHeartbeats 2000000 in
theorem rcore_any (s : ByteArray) (w : World) (hs : s.size ≤ 9223372036854775807) :
    Calls Try.prog 49 #[.string s] w fun e w' => e = .returned (.string (coreS s)) ∧ Below w.heap.size w w' := by
  rcases Nat.eq_zero_or_pos s.size with h0 | h0
  · have h0' : (s.size : Int) = 0 := by omega
    have hc := aside (coreS_of (s := s) (t := s) (by
      have e : bytesOf s = [] := List.length_eq_zero_iff.1 (by rw [bytesOf_length]; exact h0)
      rw [e]; rfl))
    generalize coreS s = r at hc ⊢
    go_enter Try.func49, Try.ntmps49
    go_wp2
    go_ret
    exact ⟨by rw [hc.out]; rfl, Below.refl _ _⟩
  · have hp : (0 : Int) < s.size := by omega
    obtain ⟨b, hb⟩ : ∃ b, b = (s[0]'h0).toNat := ⟨_, rfl⟩
    have hb' : ∀ h : 0 < s.size, (s[0]'h).toNat = b := fun _ => hb.symm
    by_cases hd : (b : Int) = 46
    · have ht := core2_any s (s.extract 1 s.size) (lead_yes h0 (by rw [← hb]; exact hd)) (by simp; omega)
      obtain rfl : b = 46 := by omega
      generalize coreS s = r at ht ⊢
      clear hb hd
      have hsz : (s.extract 1 s.size).size = s.size - 1 := by simp
      rcases ht with ⟨h1, rfl⟩ | ⟨m, hn, hm, ht⟩
      · have hs1 : s.size = 1 := by omega
        clear h1 hsz
        go_enter Try.func49, Try.ntmps49
        go_wp2
        go_ret
        exact ⟨by rw [hs1]; simp, Below.refl _ _⟩
      · have hs2 : s.size = m + 2 := by omega
        have hw : IntKind.i64.wrap ((m : Int) + 2 - 1 - 1) = m := by rw [IntKind.wrap_i64]; omega
        simp only [hs2] at ht
        obtain ⟨c, hc⟩ : ∃ c, c = ((s.extract 1 (m + 2))[m]'(by simp; omega)).toNat := ⟨_, rfl⟩
        have hc' : ∀ h : m < (s.extract 1 (m + 2)).size, ((s.extract 1 (m + 2))[m]'h).toNat = c := fun _ => hc.symm
        have ht2 : ((c : Int) = 46 ∧ r = (s.extract 1 (m + 2)).extract 0 m) ∨ (¬ (c : Int) = 46 ∧ r = s.extract 1 (m + 2)) := by rw [hc]; exact ht
        clear ht hn hsz hm
        rcases ht2 with ⟨h46, hr⟩ | ⟨h46, hr⟩
        · obtain rfl : c = 46 := by omega
          clear hc h46
          have HR := aside hr
          clear hr
          go_enter Try.func49, Try.ntmps49
          go_wp2
          go_ret
          exact ⟨by rw [HR.out]; rfl, Below.refl _ _⟩
        · have h46' : ((c : Int) == 46) = false := by simpa using h46
          have HR := aside hr
          clear hr hc h46
          go_enter Try.func49, Try.ntmps49
          go_wp2
          go_ret
          exact ⟨by rw [HR.out]; rfl, Below.refl _ _⟩
    · have ht := core2_any s s (lead_no h0 (by rw [← hb]; exact hd)) hs
      have hd' : ((b : Int) == 46) = false := by simpa using hd
      generalize coreS s = r at ht ⊢
      clear hb hd
      rcases ht with ⟨h1, hr⟩ | ⟨m, hn, hm, ht⟩
      · omega
      · have hw : IntKind.i64.wrap ((m : Int) + 1 - 1) = m := by rw [IntKind.wrap_i64]; omega
        obtain ⟨c, hc⟩ : ∃ c, c = (s[m]'hn).toNat := ⟨_, rfl⟩
        have hc' : ∀ h : m < s.size, (s[m]'h).toNat = c := fun _ => hc.symm
        have ht2 : ((c : Int) = 46 ∧ r = s.extract 0 m) ∨ (¬ (c : Int) = 46 ∧ r = s) := by rw [hc]; exact ht
        clear ht hc hn hp
        have hp : (0 : Int) < (m : Int) + 1 := by omega
        rcases ht2 with ⟨h46, hr⟩ | ⟨h46, hr⟩
        · obtain rfl : c = 46 := by omega
          clear h46
          have HR := aside hr
          clear hr
          go_enter Try.func49, Try.ntmps49
          go_wp2
          go_ret
          exact ⟨by rw [HR.out]; rfl, Below.refl _ _⟩
        · have h46' : ((c : Int) == 46) = false := by simpa using h46
          have HR := aside hr
          clear hr h46
          go_enter Try.func49, Try.ntmps49
          go_wp2
          go_ret
          exact ⟨by rw [HR.out]; rfl, Below.refl _ _⟩
end Go.Proofs.Ytcignolfkocjeaa
namespace Go.Proofs.Ytcignolfkocjeaa.Pr
open Go.RowKit Go.Proofs.YtcignolfkocjeaaW.PrintWords
def compositorref10_core.f (a0 : ByteArray) : Option (ByteArray) := if a0.size ≤ 9223372036854775807 then some (coreS a0) else none
theorem compositorref10_core.calls (a0 : ByteArray) (r : ByteArray) (w : World) (h : compositorref10_core.f a0 = some r) :
    Calls Try.prog 49 #[.string a0] w fun e w' => e = .returned (.string r) ∧ Below w.heap.size w w' := by
  unfold compositorref10_core.f at h
  split at h
  · cases h; exact rcore_any a0 w (by assumption)
  · cases h
def liang_plain.f (a0 : ByteArray) : Option Bool := if a0.size ≤ 9223372036854775807 then some (plainB a0) else none
theorem liang_plain.calls (a0 : ByteArray) (r : Bool) (w : World) (h : liang_plain.f a0 = some r) :
    Calls Try.prog 62 #[.string a0] w fun e w' => e = .returned (.bool r) ∧ Below w.heap.size w w' := by
  unfold liang_plain.f at h
  split at h
  · cases h; exact lplain_any a0 w (by assumption)
  · cases h
end Go.Proofs.Ytcignolfkocjeaa.Pr
