/- liang's plain, walked: whether letters may be a word. -/
import Derived.Test.YtcignolfkocjeaaBase
import Derived.Laws.RangeString
import Derived.Laws.RangeAny
set_option linter.unusedVariables false
set_option linter.unusedSimpArgs false
namespace Go.Proofs.Ytcignolfkocjeaa
open Go.RowKit Go.Proofs.YtcignolfkocjeaaW.PrintWords

/-- Are all bytes small letters? -/
def lowB (l : List Int) : Bool := l.all (fun x => decide (97 ≤ x) && decide (x ≤ 122))
def plainB (s : ByteArray) : Bool := lowB (bytesOf s) && decide (1 ≤ (s.size : Int)) && decide ((s.size : Int) ≤ 40)
theorem bytesOf_drop (s : ByteArray) (k : Nat) (h : k < s.size) : (bytesOf s).drop k = ((s[k]'h).toNat : Int) :: (bytesOf s).drop (k + 1) := by
  have hl : k < (bytesOf s).length := by rw [bytesOf_length]; exact h
  rw [List.drop_eq_getElem_cons hl]
  congr 1
  simp [bytesOf]
  rfl
theorem lowB_drop (s : ByteArray) (k : Nat) (h : k < s.size) : lowB ((bytesOf s).drop k) = (decide (97 ≤ ((s[k]'h).toNat : Int)) && decide (((s[k]'h).toNat : Int) ≤ 122) && lowB ((bytesOf s).drop (k + 1))) := by
  rw [bytesOf_drop s k h]; rfl
theorem decode_big (s : ByteArray) (k : Nat) (h : k < s.size) (hb : 128 ≤ (s[k]'h).toNat) : 122 < (Utf8.decode s k).1 := by
  have e : s.get! (k + 0) = s[k]'h := by
    show s.get! k = _
    simp [ByteArray.get!, getElem!_pos, h]
    rfl
  simp only [Utf8.decode, e, Utf8.runeError]
  rw [if_neg (by omega)]
  split
  · split <;> simp <;> omega
  · split
    · split
      · rename_i hc; simp only [Bool.and_eq_true, decide_eq_true_eq] at hc; simp; omega
      · simp
    · split
      · split
        · rename_i hc; simp only [Bool.and_eq_true, decide_eq_true_eq] at hc; simp; omega
        · simp
      · simp

set_option maxHeartbeats 1000000 in
theorem lplain_any (s : ByteArray) (w : World) (hs : s.size ≤ 9223372036854775807) :
    Calls Try.prog 62 #[.string s] w fun e w' => e = .returned (.bool (plainB s)) ∧ Below w.heap.size w w' := by
  go_enter Try.func62, Try.ntmps62
  go_wp2
  go_loopg [4] s.size (fun gg _ wr => ∃ kk : Nat, kk ≤ s.size ∧ s.size - kk ≤ gg ∧ Aside (wr = w.iter s kk) ∧ Aside (lowB (bytesOf s) = lowB ((bytesOf s).drop kk)))
  case atStart => exact ⟨0, Nat.zero_le _, by omega, rfl, by simp [Aside]⟩
  case round =>
    obtain ⟨kk, hkk, hg, HW, HL⟩ := hrel
    obtain rfl := HW.out
    clear HW
    by_cases hlt : kk < s.size
    · have hd := lowB_drop s kk hlt
      by_cases hb : 97 ≤ (s[kk]'hlt).toNat ∧ (s[kk]'hlt).toNat ≤ 122
      · have hnx := fun ty => run_next_ascii (P := Try.prog) w s kk ty hlt (by omega)
        have h1 : (97 : Int) ≤ ((s[kk]'hlt).toNat : Int) := by omega
        have h2 : ((s[kk]'hlt).toNat : Int) ≤ 122 := by omega
        have HE := aside (show lowB (bytesOf s) = lowB ((bytesOf s).drop (kk + 1)) by rw [HL.out, hd, decide_eq_true h1, decide_eq_true h2]; rfl)
        clear hd HL hb
        generalize (s[kk]'hlt).toNat = b at hnx h1 h2
        go_wp2
        go_roundg (s.size - (kk + 1))
        case measure => omega
        case rel => exact ⟨kk + 1, by omega, by omega, rfl, HE⟩
      · have HE := aside (show plainB s = false by
          unfold plainB
          rw [HL.out, hd]
          by_cases h1 : (97 : Int) ≤ ((s[kk]'hlt).toNat : Int)
          · rw [decide_eq_false (show ¬ ((s[kk]'hlt).toNat : Int) ≤ 122 by omega)]; simp
          · rw [decide_eq_false h1]; simp)
        have hr : (Utf8.decode s kk).1 < 97 ∨ 122 < (Utf8.decode s kk).1 := by
          by_cases ha : (s[kk]'hlt).toNat < 128
          · rw [decode_ascii s kk hlt ha]; simp only; omega
          · exact .inr (decode_big s kk hlt (by omega))
        have hnx := fun ty => run_next_any (P := Try.prog) w s kk ty hlt
        clear hd hb HL
        generalize Utf8.decode s kk = d at hnx hr
        obtain ⟨r, m⟩ := d
        simp only at hnx hr
        rcases hr with hr | hr
        · have h1 : ((r : Int) < 97) := by omega
          go_wp2
          go_ret
          exact ⟨by rw [HE.out]; rfl, below_alloc (Below.refl _ _) _⟩
        · have h1 : ¬ ((r : Int) < 97) := by omega
          have h2 : ((122 : Int) < r) := by omega
          go_wp2
          go_ret
          exact ⟨by rw [HE.out]; rfl, below_alloc (Below.refl _ _) _⟩
    · obtain rfl : kk = s.size := by omega
      have hnx := fun ty => run_next_end (P := Try.prog) w s s.size ty (by omega)
      have HE := aside (show lowB (bytesOf s) = true by
        rw [HL.out, List.drop_of_length_le (by rw [bytesOf_length]; exact Nat.le_refl _)]; rfl)
      clear HL
      by_cases h1 : (1 : Int) ≤ (s.size : Int)
      · by_cases h2 : (s.size : Int) ≤ 40
        all_goals
          go_wp2
          go_ret
          exact ⟨by unfold plainB; rw [HE.out, decide_eq_true (show (1 : Int) ≤ (s.size : Int) by omega)]; first | (rw [decide_eq_true (show (s.size : Int) ≤ 40 by omega)]; rfl) | (rw [decide_eq_false (show ¬ (s.size : Int) ≤ 40 by omega)]; rfl), below_alloc (Below.refl _ _) _⟩
      · go_wp2
        go_ret
        exact ⟨by unfold plainB; rw [HE.out, decide_eq_false (show ¬ (1 : Int) ≤ (s.size : Int) by omega)]; rfl, below_alloc (Below.refl _ _) _⟩

/-! A dot ahead, and behind. -/
def dotted (l : List Int) : List Int := match l with | [] => [] | x :: r => if x = 46 then r else x :: r
def coreL (l : List Int) : List Int := (dotted (dotted l).reverse).reverse
theorem extract_list (s : ByteArray) (a b : Nat) : (s.extract a b).data.toList = (s.data.toList.drop a).take (b - a) := by
  simp [ByteArray.data_extract]
theorem eq46 {x : UInt8} : ([x] == [46]) = decide ((x.toNat : Int) = 46) := by
  rw [Bool.eq_iff_iff]
  simp only [beq_iff_eq, List.cons.injEq, and_true, decide_eq_true_eq]
  constructor
  · rintro rfl; rfl
  · intro h; exact UInt8.toNat_inj.1 (by have : x.toNat = 46 := by omega
                                         rw [this]; rfl)
theorem pre_yes {s : ByteArray} (h : ((s.extract 0 1).toList == [46]) = true) : bytesOf (s.extract 1 s.size) = dotted (bytesOf s) := by
  rw [ByteArray.toList_eq, extract_list] at h
  unfold bytesOf
  rw [extract_list]
  have hl := data_length s
  cases hd : s.data.toList with
  | nil => rw [hd] at h; simp at h
  | cons x r =>
    rw [hd] at h hl
    simp only [List.drop_zero, Nat.sub_zero, List.take_succ_cons, List.take_zero] at h
    rw [eq46, decide_eq_true_eq] at h
    have hr : s.size - 1 = r.length := by simp at hl; omega
    rw [List.drop_succ_cons, List.drop_zero, hr, List.take_length]
    simp only [List.map_cons, dotted]
    rw [if_pos h]
theorem pre_no {s : ByteArray} (h : ((s.extract 0 1).toList == [46]) = false ∨ s.size < 1) : bytesOf s = dotted (bytesOf s) := by
  unfold bytesOf
  have hl := data_length s
  cases hd : s.data.toList with
  | nil => rfl
  | cons x r =>
    rcases h with h | h
    · rw [ByteArray.toList_eq, extract_list, hd] at h
      simp only [List.drop_zero, Nat.sub_zero, List.take_succ_cons, List.take_zero] at h
      rw [eq46, decide_eq_false_iff_not] at h
      simp only [List.map_cons, dotted]
      rw [if_neg h]
    · rw [hd] at hl; simp at hl; omega
theorem suf_yes {s : ByteArray} (h1 : 1 ≤ s.size) (h : ((s.extract (s.size - 1) s.size).toList == [46]) = true) : bytesOf (s.extract 0 (s.size - 1)) = (dotted (bytesOf s).reverse).reverse := by
  rw [ByteArray.toList_eq, extract_list] at h
  unfold bytesOf
  rw [extract_list]
  have hl := data_length s
  obtain ⟨r, x, hd⟩ : ∃ r x, s.data.toList = r ++ [x] := ⟨_, _, (List.dropLast_concat_getLast (l := s.data.toList) (by intro h; rw [h] at hl; simp at hl; omega)).symm⟩
  rw [hd] at h hl ⊢
  have hr : s.size - 1 = r.length := by simp at hl; omega
  have hr2 : s.size - (s.size - 1) = 1 := by omega
  rw [hr2, hr, List.drop_left] at h
  simp only [List.take_succ_cons, List.take_zero] at h
  rw [eq46, decide_eq_true_eq] at h
  rw [hr, Nat.sub_zero, List.drop_zero, List.take_left]
  simp only [List.map_append, List.map_cons, List.map_nil, List.reverse_append, List.reverse_cons, List.reverse_nil, List.nil_append, List.cons_append, dotted]
  rw [if_pos h, List.reverse_reverse]
theorem suf_no {s : ByteArray} (h : ((s.extract (s.size - 1) s.size).toList == [46]) = false ∨ s.size < 1) : bytesOf s = (dotted (bytesOf s).reverse).reverse := by
  have hl := data_length s
  by_cases h1 : 1 ≤ s.size
  · obtain ⟨r, x, hd⟩ : ∃ r x, s.data.toList = r ++ [x] := ⟨_, _, (List.dropLast_concat_getLast (l := s.data.toList) (by intro h; rw [h] at hl; simp at hl; omega)).symm⟩
    rcases h with h | h
    · rw [ByteArray.toList_eq, extract_list] at h
      unfold bytesOf
      rw [hd] at h hl ⊢
      have hr : s.size - 1 = r.length := by simp at hl; omega
      have hr2 : s.size - (s.size - 1) = 1 := by omega
      rw [hr2, hr, List.drop_left] at h
      simp only [List.take_succ_cons, List.take_zero] at h
      rw [eq46, decide_eq_false_iff_not] at h
      simp only [List.map_append, List.map_cons, List.map_nil, List.reverse_append, List.reverse_cons, List.reverse_nil, List.nil_append, List.cons_append, dotted]
      rw [if_neg h]; simp
    · omega
  · have : bytesOf s = [] := List.length_eq_zero_iff.1 (by rw [bytesOf_length]; omega)
    rw [this]; rfl
theorem dotted_le (l : List Int) : (dotted l).length ≤ l.length := by
  cases l with
  | nil => exact Nat.le_refl _
  | cons x r =>
    simp only [dotted]
    split <;> simp
def StrPost (l : List Int) (w : World) (e : Ending) (w' : World) : Prop := ∃ t : ByteArray, e = .returned (.string t) ∧ bytesOf t = l ∧ w' = w
set_option maxHeartbeats 1000000 in
theorem trimpre_any (s : ByteArray) (w : World) (hs : s.size ≤ 9223372036854775807) :
    Calls Try.prog 60 #[.string s, .string ⟨#[46]⟩] w (StrPost (dotted (bytesOf s)) w) := by
  go_enter Try.func60, Try.ntmps60
  go_wp2
  · have h : ((s.extract 0 1).toList == [46]) = true := by assumption
    go_ret
    exact ⟨_, rfl, pre_yes h, rfl⟩
  · have h : ((s.extract 0 1).toList == [46]) = false := by assumption
    go_ret
    exact ⟨_, rfl, pre_no (.inl h), rfl⟩
  · have h : (s.size : Int) < 1 := by assumption
    go_ret
    exact ⟨_, rfl, pre_no (.inr (by omega)), rfl⟩
set_option maxHeartbeats 1000000 in
theorem trimsuf_any (s : ByteArray) (w : World) (hs : s.size ≤ 9223372036854775807) :
    Calls Try.prog 59 #[.string s, .string ⟨#[46]⟩] w (StrPost (dotted (bytesOf s).reverse).reverse w) := by
  by_cases h1 : (1 : Int) ≤ (s.size : Int)
  · obtain ⟨m, hm⟩ : ∃ m : Nat, s.size = m + 1 := ⟨s.size - 1, by omega⟩
    have h2 : IntKind.i64.wrap ((s.size : Int) - 1) = (m : Int) := by rw [hm]; rw [IntKind.wrap_i64]; omega
    have h3 : (m : Int) ≤ s.size := by omega
    go_enter Try.func59, Try.ntmps59
    go_wp2
    · have h : ((s.extract m (m + 1)).toList == [46]) = true := by assumption
      rw [← hm, show m = s.size - 1 by omega] at h
      go_ret
      exact ⟨_, rfl, by rw [show m = s.size - 1 by omega]; exact suf_yes (by omega) h, rfl⟩
    · have h : ((s.extract m (m + 1)).toList == [46]) = false := by assumption
      rw [← hm, show m = s.size - 1 by omega] at h
      go_ret
      exact ⟨_, rfl, suf_no (.inl h), rfl⟩
  · go_enter Try.func59, Try.ntmps59
    go_wp2
    go_ret
    exact ⟨_, rfl, suf_no (.inr (by omega)), rfl⟩
theorem plainB_core {s t : ByteArray} (h : bytesOf t = coreL (bytesOf s)) : plainB t = (lowB (coreL (bytesOf s)) && decide (1 ≤ ((coreL (bytesOf s)).length : Int)) && decide (((coreL (bytesOf s)).length : Int) ≤ 40)) := by
  unfold plainB
  rw [← bytesOf_length, h]
end Go.Proofs.Ytcignolfkocjeaa
