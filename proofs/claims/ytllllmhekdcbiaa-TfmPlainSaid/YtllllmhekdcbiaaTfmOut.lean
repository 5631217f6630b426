/- tfm's growing bytes, walked: a number put behind, fixes put behind. -/
import Derived.Test.YtllllmhekdcbiaaPack2
set_option linter.unusedVariables false
set_option linter.unusedSimpArgs false
namespace Go.Proofs.Ytllllmhekdcbiaa
open Go.RowKit Go.Proofs.YtllllmhekdcbiaaW.PrintWords

/-- At block b stand bytes that grow, in memory made since base. -/
def OutIs (W : World) (base b : Nat) (l : List Int) : Prop :=
  ∃ v, W.heap[b]? = some (.cells #[v] 44 (0, 0)) ∧ base ≤ b ∧ (Kd.int .u8).R 5 W base (fun k => k ≠ b) v l

theorem outis_cell {W : World} {b : Nat} {v : Value} (h : W.heap[b]? = some (.cells #[v] 44 (0, 0))) : W.cell? ⟨b, 0, none⟩ = some v ∧ W.frozen? ⟨b, 0, none⟩ = false := by
  refine ⟨(blk_cell h 0).trans rfl, ?_⟩
  simp [World.frozen?, h]

/-- What becomes of the block when a row made since is stored there. -/
theorem outis_store {w w1 : World} {base b : Nat} {v v1 : Value} {l : List Int} (hv : w.heap[b]? = some (.cells #[v] 44 (0, 0))) (hb : base ≤ b) (hR : (Kd.int .u8).R 5 w1 w.heap.size (fun _ => True) v1 l) (hB : Below w.heap.size w w1) :
    OutIs (w1.setCell ⟨b, 0, none⟩ v1) base b l ∧ w.grownBy (w1.setCell ⟨b, 0, none⟩ v1) (some b) := by
  have hlt : b < w.heap.size := blk_lt hv
  have hv1 := (hB.block b hlt).trans hv
  have hR2 : (Kd.int .u8).R 5 w1 base (fun k => k ≠ b) v1 l := Kd.R_lower (Kd.R_mono (Kd.R_bound hR) (fun k hk => by have := hk.2.1; omega)) (by omega)
  refine ⟨⟨v1, blk_set hv1 0 v1, hb, Kd.R_far (p := ⟨b, 0, none⟩) hR2 (fun k hk => hk) v1⟩, ?_⟩
  exact ⟨hB.os, hB.tape, hB.output, by simpa [World.setCell] using hB.size, fun k hk hne => by
    rw [Below.heap_setCell _ _ _ _ (by intro e; exact hne (by rw [e]))]
    exact hB.block k hk⟩

set_option maxHeartbeats 1000000 in
theorem oput_any (sz : Nat) (hsz : sz = 2 ∨ sz = 4) (base b : Nat) (l : List Int) (n : Int) (w : World) (hO : OutIs w base b l) (hl : l.length ≤ 1000000) (h0 : 0 ≤ n) (h1 : n < 256 ^ sz) :
    Calls Try.prog 14 #[.pointer (some ⟨b, 0, none⟩), .int .i64 n, .int .i64 sz] w fun e w' => e = .returned (.tuple #[]) ∧ OutIs w' base b (l ++ be n sz) ∧ w.grownBy w' (some b) := by
  obtain ⟨v, hv, hb, hR⟩ := hO
  obtain ⟨A, c, rfl, hc, hC⟩ := Kd.R_reads hR
  obtain ⟨hcell, hfr⟩ := outis_cell hv
  have hlt : b < w.heap.size := blk_lt hv
  have HP := aside (put_any sz hsz A c l n w hC hl h0 h1)
  have HV := aside hv
  clear hR hC hv
  go_enter Try.func14, Try.ntmps14
  go_wp2_with (go_at_call 31; refine HP.out.mono ?_; rintro e w1 ⟨v1, rfl, hR1, hB1⟩; obtain ⟨A1, c1, hv1⟩ := Kd.R_slice hR1; subst hv1; have hc1 := (outis_cell ((hB1.block b hlt).trans HV.out)).1; have hf1 := (outis_cell ((hB1.block b hlt).trans HV.out)).2)
  go_end0
  have h := outis_store HV.out hb hR1 hB1
  rw [List.length_append] at h
  exact ⟨rfl, h.1, h.2⟩

theorem OutIs.grown {w w' : World} {base b : Nat} {l : List Int} (h : OutIs w base b l) (hb : Below w.heap.size w w') : OutIs w' base b l := by
  obtain ⟨v, hv, hle, hR⟩ := h
  exact ⟨v, blk_below hv hb, hle, Kd.R_below hR hb⟩
theorem grown_trans {w a b : World} {r : Option Nat} (h : w.grownBy a r) (k : a.grownBy b r) : w.grownBy b r := World.grownBy.trans h k

/-- Fixes as bytes, one behind the other. -/
def fixBytes : List Int → List Int
  | [] => []
  | n :: l => be (n % 4294967296) 4 ++ fixBytes l
theorem fixBytes_length : ∀ l, (fixBytes l).length = 4 * l.length
  | [] => rfl
  | n :: l => by simp [fixBytes, fixBytes_length l, be_length]; omega
theorem fixBytes_snoc : ∀ (l : List Int) (n : Int), fixBytes (l ++ [n]) = fixBytes l ++ be (n % 4294967296) 4
  | [], n => by simp [fixBytes]
  | m :: l, n => by simp [fixBytes, fixBytes_snoc l n]
theorem fixBytes_append : ∀ (l m : List Int), fixBytes (l ++ m) = fixBytes l ++ fixBytes m
  | [], m => rfl
  | n :: l, m => by simp [fixBytes, fixBytes_append l m]

set_option maxHeartbeats 2000000 in
theorem ofixes_any (base b : Nat) (l : List Int) (A : Option Addr) (c : Nat) (xs : List Int) (w : World) (hO : OutIs w base b l) (hC : (Kd.int .i64).C w A xs.length xs) (hA : ∀ ad, A = some ad → 0 < xs.length → ad.block ≠ b)
    (hl : l.length + 4 * xs.length ≤ 1000000) (hx : ∀ j, j < xs.length → -2147483648 ≤ xs.getD j 0 ∧ xs.getD j 0 < 2147483648) :
    Calls Try.prog 15 #[.pointer (some ⟨b, 0, none⟩), .slice A xs.length c] w fun e w' => e = .returned (.tuple #[]) ∧ OutIs w' base b (l ++ fixBytes xs) ∧ w.grownBy w' (some b) := by
  have hn := hC.2.1
  have HA := aside hA
  have HX := aside hx
  have HC := aside hC
  have HO := aside hO
  clear hA hx hC hO
  go_enter Try.func15, Try.ntmps15
  go_wp2
  go_loopg [8] xs.length (fun gg s8 wr => ∃ kk : Nat, kk ≤ xs.length ∧ xs.length - kk ≤ gg ∧ s8 = .int .i64 kk ∧ Aside (OutIs wr base b (l ++ fixBytes (xs.take kk))) ∧ Aside (w.grownBy wr (some b)))
  case atStart => exact ⟨0, by omega, by omega, rfl, by simpa [fixBytes] using HO, ⟨rfl, rfl, rfl, Nat.le_refl _, fun _ _ _ => rfl⟩⟩
  case round =>
    obtain ⟨kk, hkk, hg, rfl, HOr, HG⟩ := hrel
    by_cases hlt : kk < xs.length
    · have hltz : (kk : Int) < (xs.length : Int) := by omega
      obtain ⟨ad, hAd, hF⟩ := int_cells' HC.out (by omega)
      have hne := HA.out ad hAd (by omega)
      subst hAd
      have hc0 : wr.cell? (ad.add kk) = some (.int .i64 (xs.getD kk 0)) := HG.out.cell (hF kk hlt) (by rw [add_block]; simpa using hne)
      have hxk := HX.out kk hlt
      have hsn := aside (show l ++ fixBytes (xs.take kk) ++ be (xs.getD kk 0 % 4294967296) 4 = l ++ fixBytes (xs.take (kk + 1)) by
        rw [List.take_succ_eq_append_getElem hlt, fixBytes_snoc, List.append_assoc]
        simp [List.getD_eq_getElem?_getD, List.getElem?_eq_getElem hlt])
      have hlen : (l ++ fixBytes (xs.take kk)).length ≤ 1000000 := by simp [fixBytes_length]; omega
      clear hF HX HA HC
      generalize xs.getD kk 0 = y at hc0 hxk hsn
      generalize l ++ fixBytes (xs.take kk) = L at hsn hlen HOr
      obtain ⟨v, hv, hb, hR⟩ := HOr.out
      obtain ⟨A1, c1, rfl, hc1, hC1⟩ := Kd.R_reads hR
      obtain ⟨hcell, hfr⟩ := outis_cell hv
      have hbl : b < wr.heap.size := blk_lt hv
      have HP := aside (putfix_any A1 c1 L y wr hC1 hlen hxk.1 hxk.2)
      have HV := aside hv
      clear hR hC1 hv HOr
      go_wp2_with (go_at_call 32; refine HP.out.mono ?_; rintro e w1 ⟨v1, rfl, hR1, hB1⟩; obtain ⟨A2, c2, hv1⟩ := Kd.R_slice hR1; subst hv1; have hd1 := (outis_cell ((hB1.block b hbl).trans HV.out)).1; have hf1 := (outis_cell ((hB1.block b hbl).trans HV.out)).2)
      have h := outis_store HV.out hb hR1 hB1
      rw [List.length_append] at h
      go_roundg (xs.length - (kk + 1))
      case measure => omega
      case rel => exact ⟨kk + 1, by omega, by omega, by go_num, by rw [← hsn.out]; exact h.1, grown_trans HG.out h.2⟩
    · obtain rfl : kk = xs.length := by omega
      have hltz : ¬ (xs.length : Int) < (xs.length : Int) := by omega
      rw [List.take_length] at HOr
      go_wp2
      go_end0
      exact ⟨rfl, HOr.out, HG.out⟩
end Go.Proofs.Ytllllmhekdcbiaa
