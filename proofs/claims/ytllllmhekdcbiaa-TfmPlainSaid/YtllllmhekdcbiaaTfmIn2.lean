/- tfm's bytes that are taken, walked: so many fixes. -/
import Derived.Test.YtllllmhekdcbiaaTfmIn
import Derived.Test.YtllllmhekdcbiaaTfmOut
set_option linter.unusedVariables false
set_option linter.unusedSimpArgs false
namespace Go.Proofs.Ytllllmhekdcbiaa
open Go.RowKit Go.Proofs.YtllllmhekdcbiaaW.PrintWords

theorem info_int : (Try.prog.info? 3).map (fun i => (i.zero, i.size, i.bytes)) = some (some (.int .i64 0), 1, 8) := by kernel_rfl

/-- So many fixes taken: they, what is left, and whether there were too few. -/
def tkFixes : Nat → List Int → Bool → List Int × List Int × Bool
  | 0, l, bad => ([], l, bad)
  | k + 1, l, bad => if l.length < 4 then ([], l, true) else (sgn (unbe l 4) :: (tkFixes k (l.drop 4) bad).1, (tkFixes k (l.drop 4) bad).2)
theorem tkFixes_step {T : List Int × List Int × Bool} {n kk : Nat} {xs lk : List Int} {bad : Bool} (hlt : kk < n) (h : T = (xs ++ (tkFixes (n - kk) lk bad).1, (tkFixes (n - kk) lk bad).2)) :
    (lk.length < 4 → T = (xs, lk, true)) ∧ (¬ lk.length < 4 → T = ((xs ++ [sgn (unbe lk 4)]) ++ (tkFixes (n - (kk + 1)) (lk.drop 4) bad).1, (tkFixes (n - (kk + 1)) (lk.drop 4) bad).2)) := by
  obtain ⟨d, hd⟩ : ∃ d, n - kk = d + 1 := ⟨n - kk - 1, by omega⟩
  rw [show n - (kk + 1) = d by omega, h, hd]
  refine ⟨fun hs => ?_, fun hs => ?_⟩
  · simp [tkFixes, hs]
  · simp [tkFixes, hs]

theorem inis_put {W : World} {base b n : Nat} {l' : List Int} {bad : Bool} {x : Value} {A' : Option Addr} {c' : Nat} (hb : W.heap[b]? = some (.cells #[x, .bool bad] 53 (0, 0))) (hle : base ≤ b) (hn : l'.length = n) (hc' : l'.length ≤ c') (hs' : Src W base A' l') :
    InIs (W.setCell ⟨b, 0, none⟩ (.slice A' n c')) base b l' bad := by
  subst hn
  have hg1 := grown_set (W := W) (p := ⟨b, 0, none⟩) (Below.refl W.heap.size W) rfl (.slice A' l'.length c')
  exact ⟨A', c', blk_set hb 0 _, hle, hc', hs'.grown hg1 hb (by decide) hle⟩
/-- A row of bytes is read, from wherever. -/
theorem Src.of_R' {W : World} {base : Nat} {v : Value} {l : List Int} {ok : Nat → Prop} (base' : Nat) (h : (Kd.int .u8).R 5 W base ok v l) : ∃ A c, v = .slice A l.length c ∧ l.length ≤ c ∧ Src W base' A l := by
  obtain ⟨A, c, hv, hc, hs⟩ := Src.of_R (w := W) h
  refine ⟨A, c, hv, hc, hs.1, fun ad e hp => ?_⟩
  obtain ⟨inner, ho⟩ := Kd.R_own h
  exact .inr (own_typed ho ad.block (by rw [hv, e]; rfl))
/-- Grown by a block, and by what was made since. -/
theorem grown_below {w W W1 : World} {b : Nat} (h : w.grownBy W (some b)) (hB : Below w.heap.size W W1) : w.grownBy W1 (some b) :=
  ⟨hB.os.trans h.os, hB.tape.trans h.tape, hB.output.trans h.output, Nat.le_trans h.size hB.size, fun k hk hne => (hB.block k hk).trans (h.block k hk hne)⟩
theorem grown_store {w W : World} {b i : Nat} (h : w.grownBy W (some b)) (u : Value) : w.grownBy (W.setCell ⟨b, i, none⟩ u) (some b) :=
  grown_trans h (grown_set (W := W) (p := ⟨b, i, none⟩) (Below.refl _ _) rfl u)

set_option maxHeartbeats 4000000 in
theorem ifixes_any (n : Nat) (base b : Nat) (l : List Int) (bad : Bool) (w : World) (hn : n ≤ 100000) (hI : InIs w base b l bad) (hby : Bytes l) (hl : l.length ≤ 1000000) (hbase : base ≤ w.heap.size) :
    Calls Try.prog 20 #[.pointer (some ⟨b, 0, none⟩), .int .i64 n] w fun e w' => ∃ v, e = .returned v ∧ (Kd.int .i64).R 3 w' w.heap.size (fun _ => True) v (tkFixes n l bad).1 ∧ InIs w' base b (tkFixes n l bad).2.1 (tkFixes n l bad).2.2 ∧ w.grownBy w' (some b) := by
  have HI := aside hI
  have HBY := aside hby
  have hblt := hI.lt
  clear hI hby
  go_enter Try.func20, Try.ntmps20
  go_wp2
  go_step3
  go_wp2
  go_step3
  go_wp2
  go_loopg [4, 9] n (fun gg s4 s9 wr => ∃ (kk : Nat) (xs lk : List Int) (bk : Bool), kk ≤ n ∧ n - kk ≤ gg ∧ s9 = .int .i64 kk ∧ xs.length = kk ∧ lk.length ≤ 1000000 ∧ Aside (tkFixes n l bad = (xs ++ (tkFixes (n - kk) lk bk).1, (tkFixes (n - kk) lk bk).2)) ∧ Aside (Bytes lk) ∧ Aside (InIs wr base b lk bk) ∧ Aside ((Kd.int .i64).R 3 wr w.heap.size (fun _ => True) s4 xs) ∧ Aside (w.grownBy wr (some b)))
  case atStart => exact ⟨0, [], l, bad, by omega, by omega, rfl, rfl, hl, by simp [Aside], HBY, HI, Kd.R_nil _ _ _ _ _, ⟨rfl, rfl, rfl, Nat.le_refl _, fun _ _ _ => rfl⟩⟩
  case round =>
    obtain ⟨kk, xs, lk, bk, hkk, hg, rfl, hxl, hll, HT, HBk, HIr, HR, HG⟩ := hrel
    have hle : w.heap.size ≤ wr.heap.size := HG.out.size
    by_cases hlt : kk < n
    · have hltz : (kk : Int) < (n : Int) := by omega
      obtain ⟨A, c, hb, hbb, hc, hs⟩ := HIr.out
      obtain ⟨g0, g1, g2, g3⟩ := inis_cells hb
      have HB := aside hb
      have HS := aside hs
      have hbw : b < wr.heap.size := blk_lt hb
      have hst := tkFixes_step hlt HT.out
      by_cases hsh : lk.length < 4
      · have HE := aside (hst.1 hsh)
        have HF := aside (takefix_short A c lk wr hsh)
        clear hb hs hst HT
        go_wp2_with (go_at_call 34; refine HF.out.mono ?_; rintro e w' ⟨rfl, hw⟩; obtain rfl := hw.symm)
        try rw [Exit.noGoto_ret]
        go_ret
        have h := inis_bad HIr.out
        rw [HE.out]
        exact ⟨_, rfl, Kd.R_mono (Kd.R_grown (Kd.R_bound HR.out) h.2 (fun k hk => by have := hk.2.1; simp; omega)) (fun _ _ => trivial), h.1, grown_trans HG.out h.2⟩
      · have HE := aside (hst.2 hsh)
        have HF := aside (takefix_any A c lk wr hs.1 hc HBk.out hll (by omega))
        clear hb hs hst HT
        go_wp2_with (first
          | (go_at_call 34; refine HF.out.mono ?_; rintro e w1 ⟨v1, rfl, hR1, hB1⟩; obtain ⟨A1, c1, hv1, hc1, hs1⟩ := Src.of_R' base hR1; subst hv1; have hbase2 : w.heap.size ≤ w1.heap.size := Nat.le_trans hle hB1.size; have HB1 := aside (blk_below HB.out hB1); have HR2 := aside (Kd.R_below HR.out hB1); have HG1 := aside (grown_trans HG.out (grown_of_below hB1 (some b))); clear hB1 hs1)
          | (at_builtin; refine Kd.R_append (Kd.int .i64) (w0 := w1) w.heap.size rfl (.tmp 26) (.tmp 28) 23 3 (.int .i64 0) 8 rfl Try.underlying23 info_int rfl (by decide) (by omega) u4 xs _ _ (fun _ => True) (fun _ => False) rfl rfl rfl (fun _ hk => hk.elim) (fun _ _ => trivial) HR2.out (Below.refl _ _) hbase2 (by omega) ?_; intro v2 w2 hR2 hB2 hg2 _; have HR3 := aside (Kd.R_over hR1 HR2.out (by decide) hg2); have HB2 := aside ((hB2.block b hblt).trans HB1.out); have m0 := (inis_cells HB2.out).1; have m2 := (inis_cells HB2.out).2.2.1; obtain ⟨A4, c4, hv4⟩ := Kd.R_slice hR2; subst hv4; clear hg2))
        all_goals (go_roundg (n - (kk + 1)))
        all_goals first
          | (case measure => omega)
          | skip
        all_goals
          obtain ⟨A3, c3, hv3, hc3, hs3⟩ := Src.of_R' base HR3.out
          injection hv3 with e1 e2 e3
          subst e1 e3
          have hl4 : (lk.drop 4).length ≤ 1000000 := by rw [List.length_drop]; omega
          have hk2 := grown_below HG1.out hB2
          refine ⟨kk + 1, xs ++ [sgn (unbe lk 4)], lk.drop 4, bk, by omega, by omega, by go_num, by simp [hxl], hl4, HE.out, HBk.out.drop 4, ?_, ?_, grown_store hk2 _⟩
          · exact inis_put HB2.out hbb List.length_drop hc3 hs3
          · have h5 := fun u => Kd.R_mono (Kd.R_far (p := ⟨b, 0, none⟩) (Kd.R_bound hR2) (fun k hk => by have := hk.2.1; simp; omega) u) (ok' := fun _ => True) (fun _ _ => trivial)
            rw [show (xs ++ [sgn (unbe lk 4)]).length = kk + 1 by simp [hxl]] at h5
            exact h5 _
    · obtain rfl : kk = n := by omega
      have hltz : ¬ (kk : Int) < (kk : Int) := by omega
      have hE := HT.out
      rw [Nat.sub_self] at hE
      simp only [tkFixes, List.append_nil] at hE
      have HE := aside hE
      clear hE HT
      go_wp2
      try rw [Exit.noGoto_ret]
      go_ret
      rw [HE.out]
      exact ⟨_, rfl, HR.out, HIr.out, HG.out⟩
end Go.Proofs.Ytllllmhekdcbiaa
