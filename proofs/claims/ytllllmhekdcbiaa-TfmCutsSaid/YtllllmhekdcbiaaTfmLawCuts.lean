/- compositorlaw07.TfmCuts, walked. -/
import Derived.Test.YtllllmhekdcbiaaTfmPure2
import Derived.IntWalk
set_option linter.unusedVariables false
set_option linter.unusedSimpArgs false
namespace Go.Proofs.Ytllllmhekdcbiaa
open Go.RowKit Go.Proofs.YtllllmhekdcbiaaW.PrintWords

theorem bytes_app {l m : List Int} (h : Bytes l) (k : Bytes m) : Bytes (l ++ m) := fun j => by
  by_cases hj : j < l.length
  · have := h j
    simpa [List.getD_eq_getElem?_getD, List.getElem?_append_left hj] using this
  · have := k (j - l.length)
    simpa [List.getD_eq_getElem?_getD, List.getElem?_append_right (Nat.le_of_not_lt hj)] using this
theorem cell_lt_size {w : World} {a : Addr} {v : Value} (h : w.cell? a = some v) : a.block < w.heap.size := by
  rcases Nat.lt_or_ge a.block w.heap.size with h' | h'
  · exact h'
  · simp [World.cell?, Array.getElem?_eq_none h'] at h

set_option maxHeartbeats 16000000 in
theorem lawcuts_any (F : FontR) (v : Value) (n1 : Int) (B2 : Option Addr) (d2 : Nat) (l2 : List Int) (w : World) (h : FontOf w v F) (hn : 0 ≤ n1 ∧ n1 ≤ 65535) (hC : (Kd.int .u8).C w B2 l2.length l2) (hc : l2.length ≤ d2) (hby : Bytes l2) :
    Calls Try.prog 4 #[v, .int .u16 n1, .slice B2 l2.length d2] w fun e w' => e = .returned (.bool true) ∧ Below w.heap.size w w' := by
  have HF := aside h
  obtain ⟨A3, A4, A5, A6, A7, A8, A9, A10, c3, c4, c5, c6, c7, c8, c9, c10, hv, h3, h4, h5, h6, h7, h8, h9, h10⟩ := h
  subst hv
  have HC := aside hC
  have HY := aside hby
  have m1 := hC.2.1
  clear hC hby
  clear h3 h4 h5 h6 h7 h8 h9 h10
  go_enter Try.func4, Try.ntmps4
  go_wp2_with fail
  obtain ⟨W, hW⟩ : ∃ W, W = w.alloc (.cells #[.int .i64 F.s, .int .i64 F.d, .int .i64 F.f, .slice A3 F.l3.length c3, .slice A4 F.l4.length c4, .slice A5 F.l5.length c5, .slice A6 F.l6.length c6, .slice A7 F.l7.length c7, .slice A8 F.l8.length c8, .slice A9 F.l9.length c9, .slice A10 F.l10.length c10] 26) := ⟨_, rfl⟩
  have hb : Below w.heap.size w W := by rw [hW]; exact below_alloc (Below.refl _ _) _
  have HX := aside (show W.heap[w.heap.size]? = some (.cells #[.int .i64 F.s, .int .i64 F.d, .int .i64 F.f, .slice A3 F.l3.length c3, .slice A4 F.l4.length c4, .slice A5 F.l5.length c5, .slice A6 F.l6.length c6, .slice A7 F.l7.length c7, .slice A8 F.l8.length c8, .slice A9 F.l9.length c9, .slice A10 F.l10.length c10] 26 (0, 0)) by rw [hW]; exact blk_new _ _)
  rw [← hW]
  clear hW
  replace HF := aside ((HF.out).below hb)
  replace HC := aside (Kd.C_below HC.out hb)
  have HB := aside hb
  clear hb
  obtain ⟨bx, hbx⟩ : ∃ bx, bx = w.heap.size := ⟨_, rfl⟩
  rw [← hbx] at HX ⊢
  clear hbx
  obtain ⟨y0, y1, y2, y3, y4, y5, y6, y7, y8, y9, y10⟩ := font_cells HX.out
  refine (awake_any W).mono ?_
  rintro e w1 ⟨rfl, hb⟩
  replace HF := aside ((HF.out).below hb)
  replace HC := aside (Kd.C_below HC.out hb)
  replace HX := aside (blk_below HX.out hb)
  replace HB := aside (below_next HB.out hb)
  clear hb
  clear y0 y1 y2 y3 y4 y5 y6 y7 y8 y9 y10
  obtain ⟨y0, y1, y2, y3, y4, y5, y6, y7, y8, y9, y10⟩ := font_cells HX.out
  go_wp2_with fail
  refine (few_of HF.out).mono ?_
  rintro e w2 ⟨rfl, hb⟩
  replace HF := aside ((HF.out).below hb)
  replace HC := aside (Kd.C_below HC.out hb)
  replace HX := aside (blk_below HX.out hb)
  replace HB := aside (below_next HB.out hb)
  clear hb
  clear y0 y1 y2 y3 y4 y5 y6 y7 y8 y9 y10
  obtain ⟨y0, y1, y2, y3, y4, y5, y6, y7, y8, y9, y10⟩ := font_cells HX.out
  have HFW := aside (show fewF F = true → _ from few_le)
  generalize fewF F = fw at HFW ⊢
  by_cases hfw : fw = false
  · subst hfw
    go_wp2_with fail
    go_ret
    exact ⟨rfl, HB.out⟩
  replace hfw : fw = true := by simpa using hfw
  subst hfw
  have hfw := HFW.out rfl
  clear HFW
  by_cases hl : l2.length ≤ 100
  rotate_left
  · have hl' : 100 < (l2.length : Int) := by omega
    go_wp2_with fail
    go_ret
    exact ⟨rfl, HB.out⟩
  have hl' : ¬ 100 < (l2.length : Int) := by omega
  have hwr := write_of HF.out
  by_cases hk : checkF F = true
  rotate_left
  · rw [if_neg hk, if_neg hk] at hwr
    go_wp2_with fail
    refine hwr.mono ?_
    rintro e w3 ⟨u, rfl, hu, hb⟩
    clear hwr
    replace HF := aside ((HF.out).below hb)
    replace HC := aside (Kd.C_below HC.out hb)
    replace HX := aside (blk_below HX.out hb)
    replace HB := aside (below_next HB.out hb)
    clear hb
    clear y0 y1 y2 y3 y4 y5 y6 y7 y8 y9 y10
    obtain ⟨AU, cU, hv, hcu, hCU⟩ := Kd.R_reads hu
    subst hv
    go_wp2_with fail
    go_ret
    exact ⟨rfl, HB.out⟩
  rw [if_pos hk, if_pos hk] at hwr
  have hL := bytesF_length F
  have hw8 : 8 ≤ wordsF F := by unfold wordsF; omega
  have hwu : wordsF F ≤ 10000 := by unfold wordsF; omega
  have HBY := aside (bytes_font hk)
  have HCUT := aside (fun k => cut_none (k := k) hk HBY.out)
  have HMORE := aside (fun m hb => more_none (m := m) hk hb)
  have HSELF := aside (read_write hk)
  have HTWO := aside (first_two hk)
  have mL : 32 ≤ (bytesF F).length := by omega
  have mU : (bytesF F).length ≤ 40000 := by omega
  generalize bytesF F = L at hwr HBY HCUT HMORE HSELF HTWO mL mU
  clear hL hw8 hwu hfw hk
  have gL : ¬ (L.length : Int) < 32 := by omega
  have pL : 0 < (L.length : Int) := by omega
  obtain ⟨hn1, hn2⟩ := hn
  obtain ⟨k, hmk⟩ : ∃ k : Nat, n1 % (L.length : Int) = k := ⟨(n1 % (L.length : Int)).toNat, by have := Int.emod_nonneg n1 (show (L.length : Int) ≠ 0 by omega); omega⟩
  have hkl : k < L.length := by have := Int.emod_lt_of_pos n1 pL; omega
  go_wp2_with fail
  refine hwr.mono ?_
  rintro e w3 ⟨u, rfl, hu, hb⟩
  clear hwr
  replace HF := aside ((HF.out).below hb)
  replace HC := aside (Kd.C_below HC.out hb)
  replace HX := aside (blk_below HX.out hb)
  replace HB := aside (below_next HB.out hb)
  clear hb
  clear y0 y1 y2 y3 y4 y5 y6 y7 y8 y9 y10
  obtain ⟨AU, cU, hv, hcu, hCU⟩ := Kd.R_reads hu
  subst hv
  have HU := aside hCU
  have hkc : (k : Int) ≤ cU := by omega
  have hlt' : (L.take k).length = k := by rw [List.length_take]; omega
  have hrd := read_of (Kd.C_take hCU (show k ≤ L.length by omega)) (c := cU) (by omega) (HBY.out.take k) (by omega)
  rw [hlt', show readF (L.take k) = zeroF by rw [readF, HCUT.out k hkl]; rfl, show readErr (L.take k) = 70 by rw [readErr, HCUT.out k hkl]; rfl] at hrd
  clear hu hCU hlt'
  go_wp2_with fail
  clear hmk
  refine hrd.mono ?_
  rintro e w4 ⟨v2, rfl, hG, hb⟩
  clear hrd
  replace HF := aside ((HF.out).below hb)
  replace HC := aside (Kd.C_below HC.out hb)
  replace HX := aside (blk_below HX.out hb)
  replace HB := aside (below_next HB.out hb)
  replace HU := aside (Kd.C_below HU.out hb)
  clear hb
  generalize zeroF = R at hG
  obtain ⟨G3, G4, G5, G6, G7, G8, G9, G10, e3, e4, e5, e6, e7, e8, e9, e10, hv, _⟩ := hG
  subst hv
  go_wp2_with (at_builtin; refine Kd.R_append_rows (Kd.int .u8) (w0 := w4.alloc (.cells #[.int .i64 R.s, .int .i64 R.d, .int .i64 R.f, .slice G3 R.l3.length e3, .slice G4 R.l4.length e4, .slice G5 R.l5.length e5, .slice G6 R.l6.length e6, .slice G7 R.l7.length e7, .slice G8 R.l8.length e8, .slice G9 R.l9.length e9, .slice G10 R.l10.length e10] 26)) (w4.heap.size + 1) rfl (.tmp 53) (.tmp 54) 27 5 (.int .u8 0) 1 rfl Try.underlying27 info_u8 rfl (by decide) (by omega) (.slice (some ⟨w4.heap.size + 1, 0, none⟩) 0 0) [] L _ _ _ (fun _ => True) (fun _ => False) rfl rfl ?aO ?aR (fun _ _ h => h) (fun _ h => h.elim) (fun _ _ => trivial) ?aB ?aS ?aL ?_)
  case aO =>
    have h := fun o => World.ownsRow_made (base := w4.heap.size + 1) (e := 5) (size := 1) (w4.alloc o) #[] 0 (by simp) (Nat.zero_le _) rfl
    simp only [World.size_alloc] at h
    exact Kd.R_of_own (h _) (fun _ _ => trivial)
  case aR => exact Kd.C_below HU.out ((below_alloc (Below.refl _ _) _).alloc (by simp) _)
  case aB => exact (Below.refl _ _).alloc (by simp) _
  case aS => simp
  case aL => simp; omega
  intro v1 w5 hR5 hB5 _ _
  have hB45 : Below w4.heap.size w4 w5 := below_next (below_alloc (Below.refl w4.heap.size w4) _) (by simpa using hB5)
  have hCm := Kd.C_below HC.out hB45
  go_wp2_with (at_builtin; refine Kd.R_append_rows (Kd.int .u8) (w0 := w4.alloc (.cells #[.int .i64 R.s, .int .i64 R.d, .int .i64 R.f, .slice G3 R.l3.length e3, .slice G4 R.l4.length e4, .slice G5 R.l5.length e5, .slice G6 R.l6.length e6, .slice G7 R.l7.length e7, .slice G8 R.l8.length e8, .slice G9 R.l9.length e9, .slice G10 R.l10.length e10] 26)) (w4.heap.size + 1) rfl (.tmp 55) (.tmp 56) 27 5 (.int .u8 0) 1 rfl Try.underlying27 info_u8 rfl (by decide) (by omega) v1 L l2 B2 l2.length d2 (fun _ => True) (fun _ => False) rfl rfl hR5 hCm (fun _ _ h => h) (fun _ h => h.elim) (fun _ _ => trivial) hB5 ?aS ?aL ?_)
  case aS => have := hB5.size; simpa using this
  case aL => omega
  intro v3 w6 hR6 hB6 _ _
  have hb : Below w4.heap.size w4 w6 := below_next (below_alloc (Below.refl w4.heap.size w4) _) (by simpa using hB6)
  replace HF := aside ((HF.out).below hb)
  replace HC := aside (Kd.C_below HC.out hb)
  replace HX := aside (blk_below HX.out hb)
  replace HB := aside (below_next HB.out hb)
  replace HU := aside (Kd.C_below HU.out hb)
  clear hb
  obtain ⟨A2, c2, hv, hc2, hC2⟩ := Kd.R_reads hR6
  subst hv
  clear hR5 hB5 hB45 hCm hR6 hB6
  have hby2 : Bytes (L ++ l2) := bytes_app HBY.out HY.out
  have hl2 : (L ++ l2).length = L.length + l2.length := List.length_append
  have hread := read_of hC2 hc2 hby2 (by omega)
  obtain ⟨er, her⟩ : ∃ er, er = readErr (L ++ l2) := ⟨_, rfl⟩
  rw [← her] at hread
  have herr : er = 0 ∧ l2.length = 0 ∨ er = 70 ∧ ((l2.length : Int) == 0) = false := by
    rw [her]
    by_cases hm : l2 = []
    · rw [hm, List.append_nil, readErr, HSELF.out]; exact .inl ⟨rfl, rfl⟩
    · rw [readErr, HMORE.out l2 hby2 hm]
      have : l2.length ≠ 0 := fun h => hm (List.length_eq_zero_iff.1 h)
      exact .inr ⟨rfl, by simp; omega⟩
  have HERR := aside herr
  clear her herr HSELF HMORE HCUT hby2 hc2 hC2
  generalize readF (L ++ l2) = R3 at hread
  generalize (L ++ l2).length = n3 at hread hl2 ⊢
  clear hl2
  go_wp2_with fail
  refine hread.mono ?_
  rintro e w7 ⟨v4, rfl, hK, hb⟩
  clear hread
  replace HF := aside ((HF.out).below hb)
  replace HC := aside (Kd.C_below HC.out hb)
  replace HX := aside (blk_below HX.out hb)
  replace HB := aside (below_next HB.out hb)
  replace HU := aside (Kd.C_below HU.out hb)
  clear hb
  obtain ⟨K3, K4, K5, K6, K7, K8, K9, K10, f3, f4, f5, f6, f7, f8, f9, f10, hv, _⟩ := hK
  subst hv
  obtain ⟨ad, hA, hcl⟩ := int_cells' HU.out (by omega)
  subst hA
  have q0 := hcl 0 (by omega)
  have q1 := hcl 1 (by omega)
  replace q1 : w7.cell? ⟨ad.block, ad.off + 1, none⟩ = some (.int .u8 (L.getD 1 0)) := by simpa [Addr.add] using q1
  replace q0 : w7.cell? ad = some (.int .u8 (L.getD 0 0)) := by simpa [Addr.add] using q0
  have hadl : ad.block < w7.heap.size := cell_lt_size q0
  have b0 := HBY.out 0
  have b1 := HBY.out 1
  have two := HTWO.out
  clear hcl HTWO HBY HU
  generalize L.getD 0 0 = x0 at q0 b0 two
  generalize L.getD 1 0 = x1 at q1 b1 two
  have TWO := aside two
  clear two
  have g0 : (0 : Int) < L.length := by omega
  have g1 : (1 : Int) < L.length := by omega
  have g0n : 0 < L.length := by omega
  have g1n : 1 < L.length := by omega
  have hwr1 : IntKind.i64.wrap (256 * x0) = 256 * x0 := IntWalk.i64_in _ (by omega)
  have hwr2 : IntKind.i64.wrap (256 * x0 + x1) = 256 * x0 + x1 := IntWalk.i64_in _ (by omega)
  have hwr3 : IntKind.i64.wrap (4 * (256 * x0 + x1)) = 4 * (256 * x0 + x1) := IntWalk.i64_in _ (by omega)
  obtain ⟨n4, hn4⟩ : ∃ n4, n4 = 4 * (256 * x0 + x1) := ⟨_, rfl⟩
  have g4 : ((4 * (256 * x0 + x1) : Int) == (L.length : Int)) = true := by rw [TWO.out]; simp
  obtain ⟨rfl, hz⟩ | ⟨rfl, hz⟩ := HERR.out
  all_goals
    clear HERR
  · have hz1 : ((l2.length : Int) == 0) = true := by simp [hz]
    go_wp2_with fail
    go_quiet (fail)
    go_wp2_with fail
    go_ret
    exact ⟨rfl, below_next HB.out (pw_below_drewN (below_alloc (Below.refl _ _) _) _)⟩
  · go_wp2_with fail
    go_quiet (fail)
    go_wp2_with fail
    go_ret
    exact ⟨rfl, below_next HB.out (pw_below_drewN (below_alloc (Below.refl _ _) _) _)⟩
end Go.Proofs.Ytllllmhekdcbiaa
