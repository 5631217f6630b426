/- compositorlaw07.TfmBack, walked. -/
import Derived.Test.YtllllmhekdcbiaaTfmPure2
set_option linter.unusedVariables false
set_option linter.unusedSimpArgs false
namespace Go.Proofs.Ytllllmhekdcbiaa
open Go.RowKit Go.Proofs.YtllllmhekdcbiaaW.PrintWords

theorem back_end {l : List Int} {Q : FontR} {ek : Int} (hb : Bytes l) (hQ : Q = readF l) (he : ek = readErr l) : ek ≠ 0 ∨ (ek = 0 ∧ (if checkF Q = true then (0 : Int) else 70) = 0 ∧ (if checkF Q = true then bytesF Q else []) = l) := by
  subst hQ he
  cases h : rdA l with
  | none => left; rw [readErr, h]; decide
  | some G =>
    right
    obtain ⟨h1, h2⟩ := write_read hb h
    have e : readF l = G := by rw [readF, h]; rfl
    rw [e, if_pos h1, if_pos h1]
    exact ⟨by rw [readErr, h]; rfl, rfl, h2⟩

set_option maxHeartbeats 16000000 in
theorem lawback_any (F : FontR) (v : Value) (B1 : Option Addr) (d1 : Nat) (l1 : List Int) (w : World) (h : FontOf w v F) (hC : (Kd.int .u8).C w B1 l1.length l1) (hc : l1.length ≤ d1) (hby : Bytes l1) :
    Calls Try.prog 3 #[v, .slice B1 l1.length d1] w fun e w' => e = .returned (.bool true) ∧ Below w.heap.size w w' := by
  have HF := aside h
  obtain ⟨A3, A4, A5, A6, A7, A8, A9, A10, c3, c4, c5, c6, c7, c8, c9, c10, hv, h3, h4, h5, h6, h7, h8, h9, h10⟩ := h
  subst hv
  have HC := aside hC
  have HY := aside hby
  have m1 := hC.2.1
  clear hC hby
  clear h3 h4 h5 h6 h7 h8 h9 h10
  go_enter Try.func3, Try.ntmps3
  go_wp2_with fail
  obtain ⟨W, hW⟩ : ∃ W, W = w.alloc (.cells #[.int .i64 F.s, .int .i64 F.d, .int .i64 F.f, .slice A3 F.l3.length c3, .slice A4 F.l4.length c4, .slice A5 F.l5.length c5, .slice A6 F.l6.length c6, .slice A7 F.l7.length c7, .slice A8 F.l8.length c8, .slice A9 F.l9.length c9, .slice A10 F.l10.length c10] 26) := ⟨_, rfl⟩
  have hb : Below w.heap.size w W := by rw [hW]; exact below_alloc (Below.refl _ _) _
  have HX := aside (show W.heap[w.heap.size]? = some (.cells #[.int .i64 F.s, .int .i64 F.d, .int .i64 F.f, .slice A3 F.l3.length c3, .slice A4 F.l4.length c4, .slice A5 F.l5.length c5, .slice A6 F.l6.length c6, .slice A7 F.l7.length c7, .slice A8 F.l8.length c8, .slice A9 F.l9.length c9, .slice A10 F.l10.length c10] 26 (0, 0)) by rw [hW]; exact blk_new _ _)
  rw [← hW]
  clear hW
  replace HF := aside ((HF.out).below hb)
  replace HC := aside (Kd.C_below HC.out hb)
  have HB := aside hb
  clear hb
  obtain ⟨bx, hbx⟩ : ∃ bx, bx = w.heap.size := ⟨_, rfl⟩
  rw [← hbx] at HX ⊢
  clear hbx
  obtain ⟨y0, y1, y2, y3, y4, y5, y6, y7, y8, y9, y10⟩ := font_cells HX.out
  refine (awake_any W).mono ?_
  rintro e w1 ⟨rfl, hb⟩
  replace HF := aside ((HF.out).below hb)
  replace HC := aside (Kd.C_below HC.out hb)
  replace HX := aside (blk_below HX.out hb)
  replace HB := aside (below_next HB.out hb)
  clear hb
  clear y0 y1 y2 y3 y4 y5 y6 y7 y8 y9 y10
  obtain ⟨y0, y1, y2, y3, y4, y5, y6, y7, y8, y9, y10⟩ := font_cells HX.out
  go_wp2_with fail
  refine (few_of HF.out).mono ?_
  rintro e w2 ⟨rfl, hb⟩
  replace HF := aside ((HF.out).below hb)
  replace HC := aside (Kd.C_below HC.out hb)
  replace HX := aside (blk_below HX.out hb)
  replace HB := aside (below_next HB.out hb)
  clear hb
  clear y0 y1 y2 y3 y4 y5 y6 y7 y8 y9 y10
  obtain ⟨y0, y1, y2, y3, y4, y5, y6, y7, y8, y9, y10⟩ := font_cells HX.out
  have HFW := aside (show fewF F = true → _ from few_le)
  generalize fewF F = fw at HFW ⊢
  by_cases hfw : fw = false
  · subst hfw
    go_wp2_with fail
    go_ret
    exact ⟨rfl, HB.out⟩
  replace hfw : fw = true := by simpa using hfw
  subst hfw
  have hfw := HFW.out rfl
  clear HFW
  by_cases hl : l1.length ≤ 6000
  rotate_left
  · have hl' : 6000 < (l1.length : Int) := by omega
    go_wp2_with fail
    go_ret
    exact ⟨rfl, HB.out⟩
  have hl' : ¬ 6000 < (l1.length : Int) := by omega
  obtain ⟨xl, ew, R, er, sm, hxl, hew, hR, her, hsm, hcases⟩ : ∃ (xl : List Int) (ew : Int) (R : FontR) (er : Int) (sm : Bool), xl = (if checkF F then bytesF F else []) ∧ ew = (if checkF F then 0 else 70) ∧ R = readF xl ∧ er = readErr xl ∧ sm = sameF F R ∧ (checkF F = true ∧ ew = 0 ∧ er = 0 ∧ sm = true ∨ checkF F = false ∧ ew = 70 ∧ xl.length = 0) := by
    refine ⟨_, _, _, _, _, rfl, rfl, rfl, rfl, rfl, ?_⟩
    by_cases hk : checkF F = true
    · rw [if_pos hk, if_pos hk, readF, readErr, read_write hk]; exact .inl ⟨hk, rfl, rfl, (sameF_iff F F).2 rfl⟩
    · rw [if_neg hk, if_neg hk]; exact .inr ⟨by simpa using hk, rfl, rfl⟩
  have hxb : Bytes xl ∧ xl.length ≤ 1000000 := by
    rw [hxl]
    by_cases hk : checkF F = true
    · rw [if_pos hk]; exact ⟨bytes_font hk, by rw [bytesF_length]; unfold wordsF; omega⟩
    · rw [if_neg hk]; exact ⟨bytes_nil, by simp⟩
  have hwr := write_of HF.out
  rw [← hxl, ← hew] at hwr
  have HXL := aside hxb
  have HR := aside hR
  have HER := aside her
  have HSM := aside hsm
  have HCS := aside hcases
  clear hxl hew hR her hsm hcases hxb hfw
  go_wp2_with fail
  refine hwr.mono ?_
  rintro e w3 ⟨u, rfl, hu, hb⟩
  clear hwr
  replace HF := aside ((HF.out).below hb)
  replace HC := aside (Kd.C_below HC.out hb)
  replace HX := aside (blk_below HX.out hb)
  replace HB := aside (below_next HB.out hb)
  clear hb
  clear y0 y1 y2 y3 y4 y5 y6 y7 y8 y9 y10
  obtain ⟨y0, y1, y2, y3, y4, y5, y6, y7, y8, y9, y10⟩ := font_cells HX.out
  obtain ⟨AU, cU, hv, hcu, hCU⟩ := Kd.R_reads hu
  subst hv
  have mu := hCU.2.1
  have hrd := read_of hCU hcu HXL.out.1 HXL.out.2
  rw [← HR.out, ← HER.out] at hrd
  clear hu hCU hcu
  go_wp2_with fail
  refine hrd.mono ?_
  rintro e w4 ⟨v2, rfl, hG, hb⟩
  clear hrd
  replace HF := aside ((HF.out).below hb)
  replace HC := aside (Kd.C_below HC.out hb)
  replace HX := aside (blk_below HX.out hb)
  replace HB := aside (below_next HB.out hb)
  clear hb
  clear y0 y1 y2 y3 y4 y5 y6 y7 y8 y9 y10
  obtain ⟨y0, y1, y2, y3, y4, y5, y6, y7, y8, y9, y10⟩ := font_cells HX.out
  have HG := aside hG
  obtain ⟨G3, G4, G5, G6, G7, G8, G9, G10, e3, e4, e5, e6, e7, e8, e9, e10, hv, _⟩ := hG
  subst hv
  have hlt := blk_lt HX.out
  go_wp2_with fail
  clear hlt
  obtain ⟨W5, hW⟩ : ∃ W5, W5 = w4.alloc (.cells #[.int .i64 R.s, .int .i64 R.d, .int .i64 R.f, .slice G3 R.l3.length e3, .slice G4 R.l4.length e4, .slice G5 R.l5.length e5, .slice G6 R.l6.length e6, .slice G7 R.l7.length e7, .slice G8 R.l8.length e8, .slice G9 R.l9.length e9, .slice G10 R.l10.length e10] 26) := ⟨_, rfl⟩
  have hb : Below w4.heap.size w4 W5 := by rw [hW]; exact below_alloc (Below.refl _ _) _
  have HZ := aside (show W5.heap[w4.heap.size]? = some (.cells #[.int .i64 R.s, .int .i64 R.d, .int .i64 R.f, .slice G3 R.l3.length e3, .slice G4 R.l4.length e4, .slice G5 R.l5.length e5, .slice G6 R.l6.length e6, .slice G7 R.l7.length e7, .slice G8 R.l8.length e8, .slice G9 R.l9.length e9, .slice G10 R.l10.length e10] 26 (0, 0)) by rw [hW]; exact blk_new _ _)
  rw [← hW]
  clear hW
  obtain ⟨bz, hbz⟩ : ∃ bz, bz = w4.heap.size := ⟨_, rfl⟩
  rw [← hbz] at HZ ⊢
  replace HF := aside ((HF.out).below hb)
  replace HC := aside (Kd.C_below HC.out hb)
  replace HX := aside (blk_below HX.out hb)
  replace HB := aside (below_next HB.out hb)
  replace HG := aside ((HG.out).below hb)
  clear hb
  clear hbz
  clear y0 y1 y2 y3 y4 y5 y6 y7 y8 y9 y10
  have hsa := same_of HF.out HG.out
  rw [← HSM.out] at hsa
  refine hsa.mono ?_
  rintro e w5 ⟨rfl, hb⟩
  clear hsa
  replace HF := aside ((HF.out).below hb)
  replace HC := aside (Kd.C_below HC.out hb)
  replace HX := aside (blk_below HX.out hb)
  replace HB := aside (below_next HB.out hb)
  replace HG := aside ((HG.out).below hb)
  replace HZ := aside (blk_below HZ.out hb)
  clear hb
  obtain ⟨y0, y1, y2, y3, y4, y5, y6, y7, y8, y9, y10⟩ := font_cells HX.out
  have HCK := aside (check_of HF.out)
  obtain ⟨hk, rfl, rfl, rfl⟩ | ⟨hk, rfl, hx0⟩ := HCS.out
  all_goals
    rw [hk] at HCK
    clear hk HCS
  · skip
    go_wp2_with fail
    refine HCK.out.mono ?_
    rintro e w6 ⟨rfl, hb⟩
    clear HCK
    replace HF := aside ((HF.out).below hb)
    replace HC := aside (Kd.C_below HC.out hb)
    replace HX := aside (blk_below HX.out hb)
    replace HB := aside (below_next HB.out hb)
    replace HG := aside ((HG.out).below hb)
    replace HZ := aside (blk_below HZ.out hb)
    clear hb
    clear y0 y1 y2 y3 y4 y5 y6 y7 y8 y9 y10
    obtain ⟨y0, y1, y2, y3, y4, y5, y6, y7, y8, y9, y10⟩ := font_cells HX.out
    go_wp2_with fail
    refine (read_of HC.out hc HY.out (by omega)).mono ?_
    rintro e w7 ⟨v3, rfl, hK, hb⟩
    replace HF := aside ((HF.out).below hb)
    replace HC := aside (Kd.C_below HC.out hb)
    replace HX := aside (blk_below HX.out hb)
    replace HB := aside (below_next HB.out hb)
    replace HG := aside ((HG.out).below hb)
    replace HZ := aside (blk_below HZ.out hb)
    clear hb
    clear y0 y1 y2 y3 y4 y5 y6 y7 y8 y9 y10
    obtain ⟨Q, hQ⟩ : ∃ Q, Q = readF l1 := ⟨_, rfl⟩
    rw [← hQ] at hK
    have HQ := aside hQ
    clear hQ
    have HK := aside hK
    obtain ⟨K3, K4, K5, K6, K7, K8, K9, K10, f3, f4, f5, f6, f7, f8, f9, f10, hv, _⟩ := hK
    subst hv
    obtain ⟨ek, hek⟩ : ∃ ek, ek = readErr l1 := ⟨_, rfl⟩
    rw [← hek]
    have HEK := aside hek
    clear hek
    go_wp2_with fail
    obtain ⟨W8, hW⟩ : ∃ W8, W8 = w7.alloc (.cells #[.int .i64 Q.s, .int .i64 Q.d, .int .i64 Q.f, .slice K3 Q.l3.length f3, .slice K4 Q.l4.length f4, .slice K5 Q.l5.length f5, .slice K6 Q.l6.length f6, .slice K7 Q.l7.length f7, .slice K8 Q.l8.length f8, .slice K9 Q.l9.length f9, .slice K10 Q.l10.length f10] 26) := ⟨_, rfl⟩
    have hb : Below w7.heap.size w7 W8 := by rw [hW]; exact below_alloc (Below.refl _ _) _
    rw [← hW]
    clear hW
    replace HF := aside ((HF.out).below hb)
    replace HC := aside (Kd.C_below HC.out hb)
    replace HX := aside (blk_below HX.out hb)
    replace HB := aside (below_next HB.out hb)
    replace HG := aside ((HG.out).below hb)
    replace HZ := aside (blk_below HZ.out hb)
    replace HK := aside ((HK.out).below hb)
    clear hb
    refine (write_of HK.out).mono ?_
    rintro e w8 ⟨u2, rfl, hu2, hb⟩
    replace HF := aside ((HF.out).below hb)
    replace HC := aside (Kd.C_below HC.out hb)
    replace HX := aside (blk_below HX.out hb)
    replace HB := aside (below_next HB.out hb)
    replace HG := aside ((HG.out).below hb)
    replace HZ := aside (blk_below HZ.out hb)
    replace HK := aside ((HK.out).below hb)
    clear hb
    obtain ⟨AV, cV, hv, hcv, hCV⟩ := Kd.R_reads hu2
    subst hv
    have hs1 := Kd.C_string (P := Try.prog) (c := cV) (dst := 9) Try.underlying27 Try.underlying5 Try.underlying9 hCV
    have hs2 := Kd.C_string (P := Try.prog) (c := d1) (dst := 9) Try.underlying27 Try.underlying5 Try.underlying9 HC.out
    have HE := aside (back_end HY.out HQ.out HEK.out)
    clear hu2 hcv hCV HQ HEK HK
    generalize (if checkF Q = true then (0 : Int) else 70) = ev at HE ⊢
    generalize (if checkF Q = true then bytesF Q else []) = xv at HE hs1 ⊢
    obtain hne | ⟨rfl, rfl, rfl⟩ := HE.out
    · have hne1 : (ek != 0) = true := by simpa using hne
      go_wp2_with fail
      go_ret
      exact ⟨rfl, HB.out⟩
    · go_wp2_with fail
      go_ret
      exact ⟨rfl, HB.out⟩
  · have hx1 : ¬ 0 < (xl.length : Int) := by omega
    go_wp2_with fail
    refine HCK.out.mono ?_
    rintro e w6 ⟨rfl, hb⟩
    clear HCK
    replace HF := aside ((HF.out).below hb)
    replace HC := aside (Kd.C_below HC.out hb)
    replace HX := aside (blk_below HX.out hb)
    replace HB := aside (below_next HB.out hb)
    replace HG := aside ((HG.out).below hb)
    replace HZ := aside (blk_below HZ.out hb)
    clear hb
    clear y0 y1 y2 y3 y4 y5 y6 y7 y8 y9 y10
    obtain ⟨y0, y1, y2, y3, y4, y5, y6, y7, y8, y9, y10⟩ := font_cells HX.out
    go_wp2_with fail
    refine (read_of HC.out hc HY.out (by omega)).mono ?_
    rintro e w7 ⟨v3, rfl, hK, hb⟩
    replace HF := aside ((HF.out).below hb)
    replace HC := aside (Kd.C_below HC.out hb)
    replace HX := aside (blk_below HX.out hb)
    replace HB := aside (below_next HB.out hb)
    replace HG := aside ((HG.out).below hb)
    replace HZ := aside (blk_below HZ.out hb)
    clear hb
    clear y0 y1 y2 y3 y4 y5 y6 y7 y8 y9 y10
    obtain ⟨Q, hQ⟩ : ∃ Q, Q = readF l1 := ⟨_, rfl⟩
    rw [← hQ] at hK
    have HQ := aside hQ
    clear hQ
    have HK := aside hK
    obtain ⟨K3, K4, K5, K6, K7, K8, K9, K10, f3, f4, f5, f6, f7, f8, f9, f10, hv, _⟩ := hK
    subst hv
    obtain ⟨ek, hek⟩ : ∃ ek, ek = readErr l1 := ⟨_, rfl⟩
    rw [← hek]
    have HEK := aside hek
    clear hek
    go_wp2_with fail
    obtain ⟨W8, hW⟩ : ∃ W8, W8 = w7.alloc (.cells #[.int .i64 Q.s, .int .i64 Q.d, .int .i64 Q.f, .slice K3 Q.l3.length f3, .slice K4 Q.l4.length f4, .slice K5 Q.l5.length f5, .slice K6 Q.l6.length f6, .slice K7 Q.l7.length f7, .slice K8 Q.l8.length f8, .slice K9 Q.l9.length f9, .slice K10 Q.l10.length f10] 26) := ⟨_, rfl⟩
    have hb : Below w7.heap.size w7 W8 := by rw [hW]; exact below_alloc (Below.refl _ _) _
    rw [← hW]
    clear hW
    replace HF := aside ((HF.out).below hb)
    replace HC := aside (Kd.C_below HC.out hb)
    replace HX := aside (blk_below HX.out hb)
    replace HB := aside (below_next HB.out hb)
    replace HG := aside ((HG.out).below hb)
    replace HZ := aside (blk_below HZ.out hb)
    replace HK := aside ((HK.out).below hb)
    clear hb
    refine (write_of HK.out).mono ?_
    rintro e w8 ⟨u2, rfl, hu2, hb⟩
    replace HF := aside ((HF.out).below hb)
    replace HC := aside (Kd.C_below HC.out hb)
    replace HX := aside (blk_below HX.out hb)
    replace HB := aside (below_next HB.out hb)
    replace HG := aside ((HG.out).below hb)
    replace HZ := aside (blk_below HZ.out hb)
    replace HK := aside ((HK.out).below hb)
    clear hb
    obtain ⟨AV, cV, hv, hcv, hCV⟩ := Kd.R_reads hu2
    subst hv
    have hs1 := Kd.C_string (P := Try.prog) (c := cV) (dst := 9) Try.underlying27 Try.underlying5 Try.underlying9 hCV
    have hs2 := Kd.C_string (P := Try.prog) (c := d1) (dst := 9) Try.underlying27 Try.underlying5 Try.underlying9 HC.out
    have HE := aside (back_end HY.out HQ.out HEK.out)
    clear hu2 hcv hCV HQ HEK HK
    generalize (if checkF Q = true then (0 : Int) else 70) = ev at HE ⊢
    generalize (if checkF Q = true then bytesF Q else []) = xv at HE hs1 ⊢
    obtain hne | ⟨rfl, rfl, rfl⟩ := HE.out
    · have hne1 : (ek != 0) = true := by simpa using hne
      go_wp2_with fail
      go_ret
      exact ⟨rfl, HB.out⟩
    · go_wp2_with fail
      go_ret
      exact ⟨rfl, HB.out⟩
end Go.Proofs.Ytllllmhekdcbiaa
