/- liang's pattern, exception, Check, walked: whether patterns may be. -/
import Derived.Test.YtcignolfkocjeaaStub
import Derived.Test.YtcignolfkocjeaaIdxInt
import Derived.Test.YtcignolfkocjeaaIdxPat
import Derived.Test.YtcignolfkocjeaaIdxExc
set_option linter.unusedVariables false
set_option linter.unusedSimpArgs false
namespace Go.Proofs.Ytcignolfkocjeaa
open Go.RowKit Go.Proofs.YtcignolfkocjeaaW.PrintWords

abbrev PatR := Pr.S40
abbrev ExcR := Pr.S59
abbrev kPat : Kd PatR := Pr.k40
abbrev kExc : Kd ExcR := Pr.k59
abbrev zPat : PatR := Pr.z40
abbrev zExc : ExcR := Pr.z59

theorem ret_b {a b : Bool} (h : a = b) : Ending.returned (.bool a) = .returned (.bool b) := by rw [h]
def digB (n : Int) : Bool := decide (0 ≤ n) && decide (n ≤ 9)
def digsB (l : List Int) : Bool := !anyOf (fun j => !digB (l.getD j 0)) 0 l.length
/-- Whether a pattern may be. -/
def patB (x : PatR) : Bool := plainB (coreS x.f0) && decide ((x.f1.length : Int) = (x.f0.size : Int) + 1) && digsB x.f1

theorem nodig_any (n : Int) (w : World) : Calls Try.prog 61 #[.int .i64 n] w fun e w' => e = .returned (.bool (!digB n)) ∧ w' = w := by
  by_cases h1 : n < 0
  · go_enter Try.func61, Try.ntmps61
    go_wp2
    go_ret
    exact ⟨by unfold digB; rw [decide_eq_false (show ¬ 0 ≤ n by omega)]; rfl, rfl⟩
  · by_cases h2 : 9 < n
    all_goals
      go_enter Try.func61, Try.ntmps61
      go_wp2
      go_ret
      exact ⟨by unfold digB; rw [decide_eq_true (show 0 ≤ n by omega)]; first | (rw [decide_eq_false (show ¬ n ≤ 9 by omega)]; rfl) | (rw [decide_eq_true (show n ≤ 9 by omega)]; rfl), rfl⟩
theorem nodigs_any (A : Option Addr) (c : Nat) (l : List Int) (w : World) (hC : (Kd.int .i64).C w A l.length l) :
    Calls Try.prog 63 #[.slice A l.length c, .func (.func 61) #[] #[]] w fun e w' => e = .returned (.bool (!digsB l)) ∧ Below w.heap.size w w' := by
  have hx := contains_Int 61 #[] (enters_of Try.func61 (by kernel_rfl) rfl) A l.length c (fun j => .int .i64 (l.getD j 0)) (fun j => !digB (l.getD j 0)) w hC.2.1 (int_cells' hC)
    (fun j hj W hW => (nodig_any _ W).mono fun e w' ⟨he, hw⟩ => ⟨he, by subst hw; exact Below.refl _ _⟩)
  rw [show anyOf (fun j => !digB (l.getD j 0)) 0 l.length = !digsB l from (Bool.not_not _).symm] at hx
  exact hx

set_option maxHeartbeats 2000000 in
theorem pattern_any (x : PatR) (A : Option Addr) (c : Nat) (w : World) (hs : x.f0.size ≤ 9223372036854775807) (hC : (Kd.int .i64).C w A x.f1.length x.f1) :
    Calls Try.prog 43 #[.agg #[.string x.f0, .slice A x.f1.length c]] w fun e w' => e = .returned (.bool (patB x)) ∧ Below w.heap.size w w' := by
  obtain ⟨s, l⟩ := x
  dsimp only at hs hC ⊢
  have hm := hC.2.1
  have HN := aside (fun W (hW : Below w.heap.size w W) => nodigs_any A c l W (Kd.C_below hC hW))
  have HT := aside (fun W => trimpre_any s W hs)
  have HD := aside (show patB ⟨s, l⟩ = (plainB (coreS s) && decide ((l.length : Int) = (s.size : Int) + 1) && digsB l) from rfl)
  generalize patB ⟨s, l⟩ = r at HD ⊢
  generalize digsB l = q at HN HD
  clear hC
  go_enter Try.func43, Try.ntmps43
  go_wp2_with fail
  obtain ⟨W, hW⟩ : ∃ W, W = w.alloc (.cells #[.string s, .slice A l.length c] 40) := ⟨_, rfl⟩
  have HB := aside (show Below w.heap.size w W by rw [hW]; exact below_alloc (Below.refl _ _) _)
  have hk : W.heap[w.heap.size]? = some (.cells #[.string s, .slice A l.length c] 40 (0, 0)) := by rw [hW]; exact blk_new _ _
  rw [← hW]
  clear hW
  obtain ⟨bx, hbx⟩ : ∃ bx, bx = w.heap.size := ⟨_, rfl⟩
  rw [← hbx] at hk ⊢
  clear hbx
  have y0 := (blk_cell hk 0).trans (show _ = some (.string s) from rfl)
  have y1 := (blk_cell hk 1).trans (show _ = some (.slice A l.length c) from rfl)
  have HK := aside hk
  clear hk
  refine (HT.out W).mono ?_
  rintro e w' ⟨t, rfl, ht, hw⟩
  obtain rfl := hw.symm
  have hts : t.size ≤ s.size := by
    have h1 := congrArg List.length ht
    rw [bytesOf_length] at h1
    rw [h1]
    have : (dotted (bytesOf s)).length ≤ (bytesOf s).length := dotted_le _
    rw [bytesOf_length] at this; exact this
  have HT2 := aside (trimsuf_any t W (by omega))
  have HTT := aside ht
  clear ht
  go_wp2_with fail
  refine HT2.out.mono ?_
  rintro e w' ⟨u, rfl, hu, hw⟩
  obtain rfl := hw.symm
  have hus : coreS s = u := coreS_of (by rw [hu, HTT.out]; rfl)
  have HP := aside (lplain_any u W (by
    have h1 := congrArg List.length hu
    rw [bytesOf_length, List.length_reverse] at h1
    rw [h1]
    have := dotted_le (bytesOf t).reverse
    rw [List.length_reverse, bytesOf_length] at this; omega))
  have HUS := aside hus
  clear hus hu HT2 HTT HT
  go_wp2_with fail
  refine HP.out.mono ?_
  rintro e w1 ⟨rfl, hb⟩
  replace HB := aside (below_next HB.out hb)
  replace y0 := pw_cell_below hb y0
  replace y1 := pw_cell_below hb y1
  clear hb HP
  cases hpl : plainB u with
  | false =>
    go_wp2_with fail
    go_ret
    exact ⟨by rw [HD.out, HUS.out, hpl]; rfl, HB.out⟩
  | true =>
    have hsz : IntKind.i64.wrap ((s.size : Int) + 1) = IntKind.i64.wrap ((s.size : Int) + 1) := rfl
    by_cases hl : (l.length : Int) = (s.size : Int) + 1
    · have hs1 : (s.size : Int) + 1 ≤ 9223372036854775807 := by omega
      have hq : ((l.length : Int) == (s.size : Int) + 1) = true := by simpa using hl
      have HL := aside hl
      clear hl hsz
      go_wp2_with (go_at_call 63; refine (HN.out _ HB.out).mono ?_; rintro e w2 ⟨rfl, hb⟩)
      go_ret
      exact ⟨by rw [HD.out, HUS.out, hpl, decide_eq_true HL.out]; cases q <;> rfl, below_next HB.out hb⟩
    · have HL := aside hl
      by_cases hs1 : (s.size : Int) + 1 ≤ 9223372036854775807
      · have hq : ((l.length : Int) == (s.size : Int) + 1) = false := by simpa using hl
        clear hl hsz
        go_wp2_with fail
        go_ret
        exact ⟨by rw [HD.out, HUS.out, hpl, decide_eq_false HL.out]; rfl, HB.out⟩
      · have hse : s.size = 9223372036854775807 := by omega
        have hw : wrap64 9223372036854775808 = -9223372036854775808 := by unfold wrap64; omega
        have hq : ((l.length : Int) == -9223372036854775808) = false := by
          rw [beq_eq_false_iff_ne]; omega
        clear hl hsz
        go_wp2_with fail
        go_ret
        exact ⟨by rw [HD.out, HUS.out, hpl, decide_eq_false HL.out]; rfl, HB.out⟩

theorem nopattern_any (x : PatR) (A : Option Addr) (c : Nat) (w : World) (hs : x.f0.size ≤ 9223372036854775807) (hC : (Kd.int .i64).C w A x.f1.length x.f1) :
    Calls Try.prog 42 #[.agg #[.string x.f0, .slice A x.f1.length c]] w fun e w' => e = .returned (.bool (!patB x)) ∧ Below w.heap.size w w' := by
  have HP := aside (fun W (hW : Below w.heap.size w W) => pattern_any x A c W hs (Kd.C_below hC hW))
  generalize patB x = r at HP ⊢
  clear hC
  go_enter Try.func42, Try.ntmps42
  go_wp2_with (go_at_call 43; refine (HP.out _ (below_alloc (Below.refl _ _) _)).mono ?_; rintro e w' ⟨rfl, hb'⟩)
  go_ret
  exact ⟨rfl, below_next (below_alloc (Below.refl _ _) _) hb'⟩

/-- Numbers that rise, from more than one number on, below another. -/
def risesB (size : Int) : Int → List Int → Bool
  | _, [] => true
  | last, n :: r => if n ≤ last ∨ size ≤ n then false else risesB size n r
def excB (x : ExcR) : Bool := risesB x.f0.size 0 x.f1 && plainB x.f0 && decide (0 < (x.f1.length : Int))
theorem rises_drop (size last : Int) (l : List Int) (k : Nat) (h : k < l.length) : risesB size last (l.drop k) = if l.getD k 0 ≤ last ∨ size ≤ l.getD k 0 then false else risesB size (l.getD k 0) (l.drop (k + 1)) := by
  rw [List.drop_eq_getElem_cons h, List.getD_eq_getElem?_getD, List.getElem?_eq_getElem h]
  rfl
set_option maxHeartbeats 2000000 in
theorem exception_any (x : ExcR) (A : Option Addr) (c : Nat) (w : World) (hs : x.f0.size ≤ 9223372036854775807) (hC : (Kd.int .i64).C w A x.f1.length x.f1) :
    Calls Try.prog 45 #[.agg #[.string x.f0, .slice A x.f1.length c]] w fun e w' => e = .returned (.bool (excB x)) ∧ Below w.heap.size w w' := by
  obtain ⟨s, l⟩ := x
  dsimp only at hs hC ⊢
  have hm := hC.2.1
  have HC := aside hC
  have HP := aside (fun W => lplain_any s W hs)
  have HD := aside (show excB ⟨s, l⟩ = (risesB s.size 0 l && plainB s && decide (0 < (l.length : Int))) from rfl)
  generalize excB ⟨s, l⟩ = r at HD ⊢
  generalize plainB s = q at HP HD
  clear hC
  go_enter Try.func45, Try.ntmps45
  go_wp2_with fail
  obtain ⟨W, hW⟩ : ∃ W, W = w.alloc (.cells #[.string s, .slice A l.length c] 59) := ⟨_, rfl⟩
  have HB := aside (show Below w.heap.size w W by rw [hW]; exact below_alloc (Below.refl _ _) _)
  have hk : W.heap[w.heap.size]? = some (.cells #[.string s, .slice A l.length c] 59 (0, 0)) := by rw [hW]; exact blk_new _ _
  rw [← hW]
  clear hW
  obtain ⟨bx, hbx⟩ : ∃ bx, bx = w.heap.size := ⟨_, rfl⟩
  rw [← hbx] at hk ⊢
  clear hbx
  have y0 := (blk_cell hk 0).trans (show _ = some (.string s) from rfl)
  have y1 := (blk_cell hk 1).trans (show _ = some (.slice A l.length c) from rfl)
  clear hk
  replace HC := aside (Kd.C_below HC.out HB.out)
  go_loop [3, 9] (fun s3 s9 => ∃ (kk : Nat) (last : Int), kk ≤ l.length ∧ s9 = .int .i64 kk ∧ s3 = .int .i64 last ∧ Aside (risesB s.size 0 l = risesB s.size last (l.drop kk))) (fun _ s9 => l.length - (intOf s9).toNat)
  case atStart => exact ⟨0, 0, Nat.zero_le _, rfl, rfl, rfl⟩
  case round =>
    obtain ⟨kk, last, hkk, rfl, rfl, HR⟩ := hrel
    by_cases hlt : kk < l.length
    · have hltz : (kk : Int) < (l.length : Int) := by omega
      obtain ⟨ad, hA, hF⟩ := int_cells' HC.out (by omega)
      subst hA
      have hc := hF kk hlt
      have hd := rises_drop s.size last l kk hlt
      clear hF
      generalize l.getD kk 0 = n at hc hd
      by_cases h1 : n ≤ last
      · have HE := aside (show risesB s.size 0 l = false by rw [HR.out, hd, if_pos (.inl h1)])
        clear hd HR
        go_wp2_with fail
        go_ret
        exact ⟨by rw [HD.out, HE.out]; rfl, HB.out⟩
      · by_cases h2 : (s.size : Int) ≤ n
        · have HE := aside (show risesB s.size 0 l = false by rw [HR.out, hd, if_pos (.inr h2)])
          clear hd HR
          go_wp2_with fail
          go_ret
          exact ⟨by rw [HD.out, HE.out]; rfl, HB.out⟩
        · have HE := aside (show risesB s.size 0 l = risesB s.size n (l.drop (kk + 1)) by rw [HR.out, hd, if_neg (by omega)])
          clear hd HR
          go_wp2_with fail
          go_round
          case rel => exact ⟨kk + 1, n, by omega, by go_num, rfl, HE⟩
          case measure => simp [intOf]; omega
    · obtain rfl : kk = l.length := by omega
      have hltz : ¬ (l.length : Int) < (l.length : Int) := by omega
      have HE := aside (show risesB s.size 0 l = true by rw [HR.out, List.drop_length]; rfl)
      clear HR
      go_wp2_with fail
      refine (HP.out _).mono ?_
      rintro e w1 ⟨rfl, hb⟩
      replace HB := aside (below_next HB.out hb)
      replace y1 := pw_cell_below hb y1
      clear hb HP
      cases q with
      | false =>
        go_wp2_with fail
        go_ret
        exact ⟨by rw [HD.out, HE.out]; rfl, HB.out⟩
      | true =>
        by_cases hl : 0 < (l.length : Int)
        · have HL := aside (decide_eq_true hl)
          have HM := aside (decide_eq_true (show 0 < l.length by omega))
          go_wp2_with fail
          go_ret
          exact ⟨by rw [HD.out, HE.out, HL.out]; exact ret_b HM.out, HB.out⟩
        · have HL := aside (decide_eq_false hl)
          have HM := aside (decide_eq_false (show ¬ 0 < l.length by omega))
          go_wp2_with fail
          go_ret
          exact ⟨by rw [HD.out, HE.out, HL.out]; exact ret_b HM.out, HB.out⟩
theorem noexception_any (x : ExcR) (A : Option Addr) (c : Nat) (w : World) (hs : x.f0.size ≤ 9223372036854775807) (hC : (Kd.int .i64).C w A x.f1.length x.f1) :
    Calls Try.prog 44 #[.agg #[.string x.f0, .slice A x.f1.length c]] w fun e w' => e = .returned (.bool (!excB x)) ∧ Below w.heap.size w w' := by
  have HP := aside (fun W (hW : Below w.heap.size w W) => exception_any x A c W hs (Kd.C_below hC hW))
  generalize excB x = r at HP ⊢
  clear hC
  go_enter Try.func44, Try.ntmps44
  go_wp2_with (go_at_call 45; refine (HP.out _ (below_alloc (Below.refl _ _) _)).mono ?_; rintro e w' ⟨rfl, hb'⟩)
  go_ret
  exact ⟨rfl, below_next (below_alloc (Below.refl _ _) _) hb'⟩
end Go.Proofs.Ytcignolfkocjeaa
