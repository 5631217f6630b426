/- pack, walked: fixes put, and numbers taken. -/
import Derived.Test.YtllllmhekdcbiaaPack
set_option linter.unusedVariables false
set_option linter.unusedSimpArgs false
namespace Go.Proofs.Ytllllmhekdcbiaa
open Go.RowKit Go.Proofs.YtllllmhekdcbiaaW.PrintWords

set_option maxHeartbeats 1000000 in
theorem putfix_any (A : Option Addr) (c : Nat) (l : List Int) (n : Int) (w : World) (hC : (Kd.int .u8).C w A l.length l) (hl : l.length ≤ 1000000) (h0 : -2147483648 ≤ n) (h1 : n < 2147483648) :
    Calls Try.prog 32 #[.slice A l.length c, .int .i64 n] w fun e w' => ∃ v, e = .returned (.tuple #[v, .int .i64 0]) ∧ (Kd.int .u8).R 5 w' w.heap.size (fun _ => True) v (l ++ be (n % 4294967296) 4) ∧ Below w.heap.size w w' := by
  have HP := aside (put_any 4 (.inr rfl) A c l (n % 4294967296) w hC hl (by omega) (by simp; omega))
  clear hC
  go_enter Try.func32, Try.ntmps32
  go_wp2_with (first
    | (go_at_call 43; refine (ways_any _).mono ?_; rintro e w' ⟨rfl, hw⟩; obtain rfl := hw.symm)
    | (go_at_call 46; refine (out_any n _ h0 h1).mono ?_; rintro e w' ⟨rfl, hw⟩; obtain rfl := hw.symm)
    | (go_at_call 31; refine HP.out.mono ?_; rintro e w' ⟨v, rfl, hR, hB⟩))
  go_ret2
  exact ⟨_, rfl, hR, hB⟩

/-- The number of the first bytes. -/
def unbe (l : List Int) : Nat → Int
  | 0 => 0
  | k + 1 => 256 * unbe l k + l.getD k 0
def Bytes (l : List Int) : Prop := ∀ j, 0 ≤ l.getD j 0 ∧ l.getD j 0 < 256
theorem unbe_range {l : List Int} (h : Bytes l) : ∀ k, 0 ≤ unbe l k ∧ unbe l k < 256 ^ k
  | 0 => by simp [unbe]
  | k + 1 => by
    have h1 := unbe_range h k
    have h2 := h k
    simp only [unbe, Int.pow_succ]
    omega

theorem wraps_i64 (n : Int) (h₀ : 0 ≤ n) (h₁ : n < 2 ^ 63) : IntKind.i64.wrap n = n := by rw [IntKind.wrap_i64]; omega
theorem i64_join (i : Nat) (x y : Int) (hi : i ≤ 62) (hx₀ : 0 ≤ x) (hx : x % 2 ^ i = 0) (hx₁ : x < 2 ^ 63) (hy₀ : 0 ≤ y) (hy : y < 2 ^ i) : bits .or .i64 x y = x + y := by
  have h2 : (2 : Int) ^ i ≤ 2 ^ 63 := by
    have := Nat.pow_le_pow_right (show 0 < 2 by decide) (show i ≤ 63 by omega)
    exact_mod_cast this
  exact bits_join .i64 63 (by decide) wraps_i64 i x y hx₀ hx hx₁ hy₀ hy (by omega)

set_option maxHeartbeats 1000000 in
theorem take_short (sz : Nat) (hsz : sz = 2 ∨ sz = 4) (A : Option Addr) (c : Nat) (l : List Int) (w : World) (hl : l.length < sz) :
    Calls Try.prog 44 #[.slice A l.length c, .int .i64 sz] w fun e w' => e = .returned (.tuple #[.int .i64 0, .slice none 0 0, .int .i64 60]) ∧ w' = w := by
  rcases hsz with rfl | rfl
  all_goals
    go_enter Try.func44, Try.ntmps44
    go_wp2_with (go_at_call 41; refine (sized_any _ _).mono ?_; rintro e w' ⟨rfl, hw⟩; obtain rfl := hw.symm)
    go_ret3
    exact ⟨rfl, rfl⟩

set_option maxHeartbeats 2000000 in
theorem take_any (sz : Nat) (hsz : sz = 2 ∨ sz = 4) (A : Option Addr) (c : Nat) (l : List Int) (w : World) (hC : (Kd.int .u8).C w A l.length l) (hc : l.length ≤ c) (hby : Bytes l) (hl : l.length ≤ 1000000) (h1 : sz ≤ l.length) :
    Calls Try.prog 44 #[.slice A l.length c, .int .i64 sz] w fun e w' => ∃ v, e = .returned (.tuple #[.int .i64 (unbe l sz), v, .int .i64 0]) ∧ (Kd.int .u8).R 5 w' w.heap.size (fun _ => True) v (l.drop sz) ∧ Below w.heap.size w w' := by
  obtain ⟨ad, hA, hF⟩ := int_cells' hC (by omega)
  subst hA
  have HF := aside hF
  have HC := aside hC
  have HBy := aside hby
  clear hC hF hby
  rcases hsz with rfl | rfl
  · go_enter Try.func44, Try.ntmps44
    go_wp2_with (go_at_call 41; refine (sized_any _ _).mono ?_; rintro e w' ⟨rfl, hw⟩; obtain rfl := hw.symm)
    go_loop [7, 8, 19] (fun s7 _ s19 => ∃ kk : Nat, kk ≤ 2 ∧ s19 = .int .i64 kk ∧ s7 = .int .i64 (unbe l kk)) (fun _ _ s19 => 2 - (intOf s19).toNat)
    case atStart => exact ⟨0, by omega, rfl, rfl⟩
    case round =>
      obtain ⟨kk, hkk, rfl, rfl⟩ := hrel
      by_cases hlt : kk < 2
      · have hcell := HF.out kk (by omega)
        have hr := unbe_range HBy.out kk
        have hb := HBy.out kk
        have hrr : 0 ≤ unbe l kk ∧ unbe l kk < 16777216 := by
          obtain rfl | rfl : kk = 0 ∨ kk = 1 := by omega
          all_goals simp at hr ⊢; omega
        have HU := aside (show bits .or .i64 (unbe l kk * 256) (wrap64 (l.getD kk 0)) = unbe l (kk + 1) by
          rw [show wrap64 (l.getD kk 0) = l.getD kk 0 by unfold wrap64; omega, i64_join 8 _ _ (by omega) (by omega) (by omega) (by omega) (by omega) (by show l.getD kk 0 < 256; omega), unbe]
          omega)
        go_wp2
        go_round
        case rel => exact ⟨kk + 1, by omega, by go_num, by have h := HU.out; simp only [List.getD_eq_getElem?_getD] at h; rw [h]⟩
        case measure => simp [intOf]; omega
      · obtain rfl : kk = 2 := by omega
        clear hlt hkk
        have hd := Kd.C_drop HC.out h1 hc
        have hln : (l.drop 2).length = l.length - 2 := List.length_drop
        by_cases hcz : c = 2
        · rw [if_pos hcz] at hd
          have hcl := aside (fun c' => clone_any _ c' (l.drop 2) w hd (by rw [hln]; omega))
          rw [hln] at hcl
          clear hd hln HC HBy HF
          go_wp2_with (go_at_call 42; refine (hcl.out _).mono ?_; rintro e w' ⟨v, rfl, hR, hB⟩)
          go_ret3
          exact ⟨_, rfl, hR, hB⟩
        · rw [if_neg hcz] at hd
          have hd2 : (Kd.int .u8).C w (some ⟨ad.block, ad.off + 2, none⟩) (l.drop 2).length (l.drop 2) := hd
          have hcl := aside (fun c' => clone_any _ c' (l.drop 2) w hd2 (by rw [hln]; omega))
          rw [hln] at hcl
          clear hd hd2 hln HC HBy HF
          go_wp2_with (go_at_call 42; refine (hcl.out _).mono ?_; rintro e w' ⟨v, rfl, hR, hB⟩)
          go_ret3
          exact ⟨_, rfl, hR, hB⟩
  · go_enter Try.func44, Try.ntmps44
    go_wp2_with (go_at_call 41; refine (sized_any _ _).mono ?_; rintro e w' ⟨rfl, hw⟩; obtain rfl := hw.symm)
    go_loop [7, 8, 19] (fun s7 _ s19 => ∃ kk : Nat, kk ≤ 4 ∧ s19 = .int .i64 kk ∧ s7 = .int .i64 (unbe l kk)) (fun _ _ s19 => 4 - (intOf s19).toNat)
    case atStart => exact ⟨0, by omega, rfl, rfl⟩
    case round =>
      obtain ⟨kk, hkk, rfl, rfl⟩ := hrel
      by_cases hlt : kk < 4
      · have hcell := HF.out kk (by omega)
        have hr := unbe_range HBy.out kk
        have hb := HBy.out kk
        have hrr : 0 ≤ unbe l kk ∧ unbe l kk < 16777216 := by
          obtain rfl | rfl | rfl | rfl : kk = 0 ∨ kk = 1 ∨ kk = 2 ∨ kk = 3 := by omega
          all_goals simp at hr ⊢; omega
        have HU := aside (show bits .or .i64 (unbe l kk * 256) (wrap64 (l.getD kk 0)) = unbe l (kk + 1) by
          rw [show wrap64 (l.getD kk 0) = l.getD kk 0 by unfold wrap64; omega, i64_join 8 _ _ (by omega) (by omega) (by omega) (by omega) (by omega) (by show l.getD kk 0 < 256; omega), unbe]
          omega)
        go_wp2
        go_round
        case rel => exact ⟨kk + 1, by omega, by go_num, by have h := HU.out; simp only [List.getD_eq_getElem?_getD] at h; rw [h]⟩
        case measure => simp [intOf]; omega
      · obtain rfl : kk = 4 := by omega
        clear hlt hkk
        have hd := Kd.C_drop HC.out h1 hc
        have hln : (l.drop 4).length = l.length - 4 := List.length_drop
        by_cases hcz : c = 4
        · rw [if_pos hcz] at hd
          have hcl := aside (fun c' => clone_any _ c' (l.drop 4) w hd (by rw [hln]; omega))
          rw [hln] at hcl
          clear hd hln HC HBy HF
          go_wp2_with (go_at_call 42; refine (hcl.out _).mono ?_; rintro e w' ⟨v, rfl, hR, hB⟩)
          go_ret3
          exact ⟨_, rfl, hR, hB⟩
        · rw [if_neg hcz] at hd
          have hd2 : (Kd.int .u8).C w (some ⟨ad.block, ad.off + 4, none⟩) (l.drop 4).length (l.drop 4) := hd
          have hcl := aside (fun c' => clone_any _ c' (l.drop 4) w hd2 (by rw [hln]; omega))
          rw [hln] at hcl
          clear hd hd2 hln HC HBy HF
          go_wp2_with (go_at_call 42; refine (hcl.out _).mono ?_; rintro e w' ⟨v, rfl, hR, hB⟩)
          go_ret3
          exact ⟨_, rfl, hR, hB⟩
end Go.Proofs.Ytllllmhekdcbiaa
