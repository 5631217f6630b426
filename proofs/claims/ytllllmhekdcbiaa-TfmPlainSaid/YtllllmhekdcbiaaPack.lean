/- pack, walked: numbers as bytes. -/
import Derived.Test.YtllllmhekdcbiaaBase
import Derived.Lib.SliceRun
set_option linter.unusedVariables false
set_option linter.unusedSimpArgs false
namespace Go.Proofs.Ytllllmhekdcbiaa
open Go.RowKit Go.Proofs.YtllllmhekdcbiaaW.PrintWords

/-- The bytes of a number, in so many, the highest first. -/
def be (n : Int) : Nat → List Int
  | 0 => []
  | k + 1 => n / (256 ^ k) % 256 :: be n k
theorem be_length (n : Int) : ∀ k, (be n k).length = k
  | 0 => rfl
  | k + 1 => by simp [be, be_length n k]

theorem info_u8 : (Try.prog.info? 5).map (fun i => (i.zero, i.size, i.bytes)) = some (some (.int .u8 0), 1, 1) := by kernel_rfl

set_option maxHeartbeats 400000 in
theorem sized_any (n : Int) (w : World) : Calls Try.prog 41 #[.int .i64 n] w fun e w' => e = .returned (.bool (decide (1 ≤ n) && decide (n ≤ 4))) ∧ w' = w := by
  by_cases h1 : 1 ≤ n <;> by_cases h2 : n ≤ 4
  all_goals
    go_enter Try.func41, Try.ntmps41
    go_wp2
    go_ret
    exact ⟨by simp [h1, h2], rfl⟩

set_option maxHeartbeats 400000 in
theorem out_any (n : Int) (w : World) (h0 : -2147483648 ≤ n) (h1 : n < 2147483648) : Calls Try.prog 46 #[.int .i64 n] w fun e w' => e = .returned (.int .i64 (n % 4294967296)) ∧ w' = w := by
  go_enter Try.func46, Try.ntmps46
  go_wp2
  go_ret
  exact ⟨rfl, rfl⟩

set_option maxHeartbeats 400000 in
theorem in_any (n : Int) (w : World) (h0 : 0 ≤ n) (h1 : n < 4294967296) : Calls Try.prog 47 #[.int .i64 n] w fun e w' => e = .returned (.int .i64 (if n < 2147483648 then n else n - 4294967296)) ∧ w' = w := by
  have H := aside (show wrap64 (wrap32 n) = (if n < 2147483648 then n else n - 4294967296) by unfold wrap64 wrap32; split <;> omega)
  generalize (if n < 2147483648 then n else n - 4294967296) = r at H ⊢
  go_enter Try.func47, Try.ntmps47
  go_wp2
  go_ret
  exact ⟨by rw [← H.out]; rfl, rfl⟩

set_option maxHeartbeats 400000 in
theorem ways_any (w : World) : Calls Try.prog 43 #[] w fun e w' => e = .returned (.tuple #[.func (.func 46) #[] #[], .func (.func 47) #[] #[]]) ∧ w' = w := by
  go_enter Try.func43, Try.ntmps43
  go_wp2
  go_ret2
  exact ⟨rfl, rfl⟩

set_option maxHeartbeats 1000000 in
theorem clone_any (A : Option Addr) (c : Nat) (l : List Int) (w : World) (hC : (Kd.int .u8).C w A l.length l) (hl : l.length ≤ 1000000) :
    Calls Try.prog 42 #[.slice A l.length c] w fun e w' => ∃ v, e = .returned v ∧ (Kd.int .u8).R 5 w' w.heap.size (fun _ => True) v l ∧ Below w.heap.size w w' := by
  have qT : ∀ (w : World) (a : Option Addr) (n c n' c' : Nat), (binOp .eql 27 (.slice a n c) (.slice none n' c')).run Try.prog w = .ok (.bool a.isNone) w := fun w a n c n' c' => Lib.run_eql_slice_nil w _ _ a n c n' c' Try.underlying27
  by_cases hA : A = none
  · subst hA
    have h0 : l.length = 0 := by
      rcases Nat.eq_zero_or_pos l.length with h | h
      · exact h
      · obtain ⟨ad, e, _⟩ := hC.2.2 h; cases e
    have h1 : l = [] := List.eq_nil_of_length_eq_zero h0
    subst h1
    go_enter Try.func42, Try.ntmps42
    go_wp2
    go_ret
    exact ⟨_, rfl, Kd.R_nil _ _ _ _ _, Below.refl _ _⟩
  · have hn : A.isNone = false := by cases A <;> simp_all
    have HC := aside hC
    clear hC hA
    go_enter Try.func42, Try.ntmps42
    go_wp2_with (at_builtin; refine Kd.R_append_rows (Kd.int .u8) (w0 := w) w.heap.size rfl (.tmp 5) (.tmp 6) 27 5 (.int .u8 0) 1 rfl Try.underlying27 info_u8 rfl (by decide) (by omega) (.slice (some ⟨w.heap.size, 0, none⟩) 0 0) [] l _ _ _ (fun _ => True) (fun _ => False) rfl rfl ?aO ?aR (fun _ _ h => h) (fun _ h => h.elim) (fun _ _ => trivial) ?aB ?aS ?aL ?_)
    case aO => exact Kd.R_of_own (World.ownsRow_made w #[] 0 (Nat.le_refl _) (Nat.zero_le _) rfl) (fun _ _ => trivial)
    case aR => exact Kd.C_below HC.out (below_alloc (Below.refl _ _) _)
    case aB => exact below_alloc (Below.refl _ _) _
    case aS => simp
    case aL => simp; omega
    intro v1 w1 hR hB _ _
    go_wp2
    go_ret
    exact ⟨_, rfl, hR, hB⟩

set_option maxHeartbeats 4000000 in
theorem put_any (sz : Nat) (hsz : sz = 2 ∨ sz = 4) (A : Option Addr) (c : Nat) (l : List Int) (n : Int) (w : World) (hC : (Kd.int .u8).C w A l.length l) (hl : l.length ≤ 1000000) (h0 : 0 ≤ n) (h1 : n < 256 ^ sz) :
    Calls Try.prog 31 #[.slice A l.length c, .int .i64 n, .int .i64 sz] w fun e w' => ∃ v, e = .returned (.tuple #[v, .int .i64 0]) ∧ (Kd.int .u8).R 5 w' w.heap.size (fun _ => True) v (l ++ be n sz) ∧ Below w.heap.size w w' := by
  have HCL := aside (clone_any A c l w hC hl)
  clear hC
  rcases hsz with rfl | rfl
  · have h1' : n < 65536 := by simpa using h1
    clear h1
    go_enter Try.func31, Try.ntmps31
    go_wp2_with (first
      | (go_at_call 41; refine (sized_any _ _).mono ?_; rintro e w' ⟨rfl, hw⟩; obtain rfl := hw.symm)
      | (go_at_call 42; refine HCL.out.mono ?_; rintro e w' ⟨v, rfl, hR, hB⟩))
    have hd : n / 65536 ≤ 0 := by omega
    have HR := aside hR
    have HB := aside hB
    clear hR hB HCL
    go_loopg [8, 9, 27] 2 (fun gg s8 _ s27 wr => ∃ kk : Nat, kk ≤ 2 ∧ 2 - kk ≤ gg ∧ s27 = .int .i64 kk ∧ Aside ((Kd.int .u8).R 5 wr w.heap.size (fun _ => True) s8 (l ++ (be n 2).take kk)) ∧ Aside (Below w.heap.size w wr))
    case atStart => exact ⟨0, by omega, by omega, rfl, by simpa using HR, HB⟩
    case round =>
      obtain ⟨kk, hkk, hg, rfl, hR, hB⟩ := hrel
      clear HR HB
      by_cases hlt : kk < 2
      · obtain rfl | rfl : kk = 0 ∨ kk = 1 := by omega
        · go_wp2_with (at_builtin; refine Kd.R_append (Kd.int .u8) (w0 := w) w.heap.size rfl (.tmp 30) (.tmp 39) 27 5 (.int .u8 0) 1 rfl Try.underlying27 info_u8 rfl (by decide) (by omega) u8 (l ++ (be n 2).take 0) _ _ (fun _ => True) (fun _ => False) rfl rfl rfl (fun _ hk => hk.elim) (fun _ _ => trivial) hR.out hB.out hB.out.size ?aL ?_)
          case aL => simp [be]; omega
          intro v1 w1 hR1 hB1 hg1 _
          clear hg1
          go_wp2
          go_roundg 1
          case measure => omega
          case rel => exact ⟨1, by omega, by omega, rfl, by have e0 : n / 256 % 256 = n / 256 := (by omega); simpa [be, Aside, e0] using hR1, hB1⟩
        · go_wp2_with (at_builtin; refine Kd.R_append (Kd.int .u8) (w0 := w) w.heap.size rfl (.tmp 30) (.tmp 39) 27 5 (.int .u8 0) 1 rfl Try.underlying27 info_u8 rfl (by decide) (by omega) u8 (l ++ (be n 2).take 1) _ _ (fun _ => True) (fun _ => False) rfl rfl rfl (fun _ hk => hk.elim) (fun _ _ => trivial) hR.out hB.out hB.out.size ?aL ?_)
          case aL => simp [be]; omega
          intro v1 w1 hR1 hB1 hg1 _
          clear hg1
          go_wp2
          go_roundg 0
          case measure => omega
          case rel => exact ⟨2, by omega, by omega, rfl, by simpa [be, Aside] using hR1, hB1⟩
      · obtain rfl : kk = 2 := by omega
        clear hlt
        have H := aside hR
        go_wp2
        go_ret2
        exact ⟨_, rfl, by simpa [be] using hR.out, hB.out⟩
  · have h1' : n < 4294967296 := by simpa using h1
    clear h1
    go_enter Try.func31, Try.ntmps31
    go_wp2_with (first
      | (go_at_call 41; refine (sized_any _ _).mono ?_; rintro e w' ⟨rfl, hw⟩; obtain rfl := hw.symm)
      | (go_at_call 42; refine HCL.out.mono ?_; rintro e w' ⟨v, rfl, hR, hB⟩))
    have hd : n / 4294967296 ≤ 0 := by omega
    have HR := aside hR
    have HB := aside hB
    clear hR hB HCL
    go_loopg [8, 9, 27] 4 (fun gg s8 _ s27 wr => ∃ kk : Nat, kk ≤ 4 ∧ 4 - kk ≤ gg ∧ s27 = .int .i64 kk ∧ Aside ((Kd.int .u8).R 5 wr w.heap.size (fun _ => True) s8 (l ++ (be n 4).take kk)) ∧ Aside (Below w.heap.size w wr))
    case atStart => exact ⟨0, by omega, by omega, rfl, by simpa using HR, HB⟩
    case round =>
      obtain ⟨kk, hkk, hg, rfl, hR, hB⟩ := hrel
      clear HR HB
      by_cases hlt : kk < 4
      · obtain rfl | rfl | rfl | rfl : kk = 0 ∨ kk = 1 ∨ kk = 2 ∨ kk = 3 := by omega
        · go_wp2_with (at_builtin; refine Kd.R_append (Kd.int .u8) (w0 := w) w.heap.size rfl (.tmp 30) (.tmp 39) 27 5 (.int .u8 0) 1 rfl Try.underlying27 info_u8 rfl (by decide) (by omega) u8 (l ++ (be n 4).take 0) _ _ (fun _ => True) (fun _ => False) rfl rfl rfl (fun _ hk => hk.elim) (fun _ _ => trivial) hR.out hB.out hB.out.size ?aL ?_)
          case aL => simp [be]; omega
          intro v1 w1 hR1 hB1 hg1 _
          clear hg1
          go_wp2
          go_roundg 3
          case measure => omega
          case rel => exact ⟨1, by omega, by omega, rfl, by have e0 : n / 16777216 % 256 = n / 16777216 := (by omega); simpa [be, Aside, e0] using hR1, hB1⟩
        · go_wp2_with (at_builtin; refine Kd.R_append (Kd.int .u8) (w0 := w) w.heap.size rfl (.tmp 30) (.tmp 39) 27 5 (.int .u8 0) 1 rfl Try.underlying27 info_u8 rfl (by decide) (by omega) u8 (l ++ (be n 4).take 1) _ _ (fun _ => True) (fun _ => False) rfl rfl rfl (fun _ hk => hk.elim) (fun _ _ => trivial) hR.out hB.out hB.out.size ?aL ?_)
          case aL => simp [be]; omega
          intro v1 w1 hR1 hB1 hg1 _
          clear hg1
          go_wp2
          go_roundg 2
          case measure => omega
          case rel => exact ⟨2, by omega, by omega, rfl, by simpa [be, Aside] using hR1, hB1⟩
        · go_wp2_with (at_builtin; refine Kd.R_append (Kd.int .u8) (w0 := w) w.heap.size rfl (.tmp 30) (.tmp 39) 27 5 (.int .u8 0) 1 rfl Try.underlying27 info_u8 rfl (by decide) (by omega) u8 (l ++ (be n 4).take 2) _ _ (fun _ => True) (fun _ => False) rfl rfl rfl (fun _ hk => hk.elim) (fun _ _ => trivial) hR.out hB.out hB.out.size ?aL ?_)
          case aL => simp [be]; omega
          intro v1 w1 hR1 hB1 hg1 _
          clear hg1
          go_wp2
          go_roundg 1
          case measure => omega
          case rel => exact ⟨3, by omega, by omega, rfl, by simpa [be, Aside] using hR1, hB1⟩
        · go_wp2_with (at_builtin; refine Kd.R_append (Kd.int .u8) (w0 := w) w.heap.size rfl (.tmp 30) (.tmp 39) 27 5 (.int .u8 0) 1 rfl Try.underlying27 info_u8 rfl (by decide) (by omega) u8 (l ++ (be n 4).take 3) _ _ (fun _ => True) (fun _ => False) rfl rfl rfl (fun _ hk => hk.elim) (fun _ _ => trivial) hR.out hB.out hB.out.size ?aL ?_)
          case aL => simp [be]; omega
          intro v1 w1 hR1 hB1 hg1 _
          clear hg1
          go_wp2
          go_roundg 0
          case measure => omega
          case rel => exact ⟨4, by omega, by omega, rfl, by simpa [be, Aside] using hR1, hB1⟩
      · obtain rfl : kk = 4 := by omega
        clear hlt
        have H := aside hR
        go_wp2
        go_ret2
        exact ⟨_, rfl, by simpa [be] using hR.out, hB.out⟩
end Go.Proofs.Ytllllmhekdcbiaa
