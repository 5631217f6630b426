/- compositorlaw07.TfmPlain, walked. -/
import Derived.Test.YtllllmhekdcbiaaTfmPure2
import Derived.IntWalk
import Derived.Test.YtllllmhekdcbiaaOver
set_option linter.unusedVariables false
set_option linter.unusedSimpArgs false
namespace Go.Proofs.Ytllllmhekdcbiaa
open Go.RowKit Go.Proofs.YtllllmhekdcbiaaW.PrintWords

theorem map_snoc (l : List ChR) (k : Nat) (h : k < l.length) : (l.map plainC).take k ++ [plainC (l.getD k zCh)] = (l.map plainC).take (k + 1) := by
  rw [List.take_succ_eq_append_getElem (by simpa using h), List.getElem_map, List.getD_eq_getElem?_getD, List.getElem?_eq_getElem h]; rfl

set_option maxHeartbeats 16000000 in
theorem lawplain_any (F : FontR) (v : Value) (code : Int) (w : World) (h : FontOf w v F) (hr : -9223372036854775808 ≤ code ∧ code < 9223372036854775808) :
    Calls Try.prog 5 #[v, .int .i64 code] w fun e w' => e = .returned (.bool true) ∧ Below w.heap.size w w' := by
  have HF := aside h
  obtain ⟨A3, A4, A5, A6, A7, A8, A9, A10, c3, c4, c5, c6, c7, c8, c9, c10, hv, h3, h4, h5, h6, h7, h8, h9, h10⟩ := h
  subst hv
  have H3 := aside h3
  have H10 := aside (And.intro h4 (And.intro h5 (And.intro h6 (And.intro h7 h10))))
  have m3 := h3.2.1
  clear h3 h4 h5 h6 h7 h8 h9 h10
  go_enter Try.func5, Try.ntmps5
  go_wp2_with fail
  obtain ⟨W, hW⟩ : ∃ W, W = w.alloc (.cells #[.int .i64 F.s, .int .i64 F.d, .int .i64 F.f, .slice A3 F.l3.length c3, .slice A4 F.l4.length c4, .slice A5 F.l5.length c5, .slice A6 F.l6.length c6, .slice A7 F.l7.length c7, .slice A8 F.l8.length c8, .slice A9 F.l9.length c9, .slice A10 F.l10.length c10] 26) := ⟨_, rfl⟩
  have hb : Below w.heap.size w W := by rw [hW]; exact below_alloc (Below.refl _ _) _
  have HX := aside (show W.heap[w.heap.size]? = some (.cells #[.int .i64 F.s, .int .i64 F.d, .int .i64 F.f, .slice A3 F.l3.length c3, .slice A4 F.l4.length c4, .slice A5 F.l5.length c5, .slice A6 F.l6.length c6, .slice A7 F.l7.length c7, .slice A8 F.l8.length c8, .slice A9 F.l9.length c9, .slice A10 F.l10.length c10] 26 (0, 0)) by rw [hW]; exact blk_new _ _)
  rw [← hW]
  clear hW
  replace HF := aside ((HF.out).below hb)
  replace H3 := aside (Kd.C_below H3.out hb)
  replace H10 := aside (And.imp (fun h => Kd.C_below h hb) (And.imp (fun h => Kd.C_below h hb) (And.imp (fun h => Kd.C_below h hb) (And.imp (fun h => Kd.C_below h hb) (fun h => Kd.C_below h hb)))) H10.out)
  have HB := aside hb
  clear hb
  obtain ⟨bx, hbx⟩ : ∃ bx, bx = w.heap.size := ⟨_, rfl⟩
  rw [← hbx] at HX ⊢
  clear hbx
  obtain ⟨y0, y1, y2, y3, y4, y5, y6, y7, y8, y9, y10⟩ := font_cells HX.out
  refine (awake_any W).mono ?_
  rintro e w1 ⟨rfl, hb⟩
  replace HF := aside ((HF.out).below hb)
  replace H3 := aside (Kd.C_below H3.out hb)
  replace H10 := aside (And.imp (fun h => Kd.C_below h hb) (And.imp (fun h => Kd.C_below h hb) (And.imp (fun h => Kd.C_below h hb) (And.imp (fun h => Kd.C_below h hb) (fun h => Kd.C_below h hb)))) H10.out)
  replace HX := aside (blk_below HX.out hb)
  replace HB := aside (below_next HB.out hb)
  clear hb
  clear y0 y1 y2 y3 y4 y5 y6 y7 y8 y9 y10
  obtain ⟨y0, y1, y2, y3, y4, y5, y6, y7, y8, y9, y10⟩ := font_cells HX.out
  go_wp2_with fail
  refine (few_of HF.out).mono ?_
  rintro e w2 ⟨rfl, hb⟩
  replace HF := aside ((HF.out).below hb)
  replace H3 := aside (Kd.C_below H3.out hb)
  replace H10 := aside (And.imp (fun h => Kd.C_below h hb) (And.imp (fun h => Kd.C_below h hb) (And.imp (fun h => Kd.C_below h hb) (And.imp (fun h => Kd.C_below h hb) (fun h => Kd.C_below h hb)))) H10.out)
  replace HX := aside (blk_below HX.out hb)
  replace HB := aside (below_next HB.out hb)
  clear hb
  clear y0 y1 y2 y3 y4 y5 y6 y7 y8 y9 y10
  obtain ⟨y0, y1, y2, y3, y4, y5, y6, y7, y8, y9, y10⟩ := font_cells HX.out
  have HFW := aside (show fewF F = true → _ from few_le)
  generalize fewF F = fw at HFW ⊢
  by_cases hfw : fw = false
  · subst hfw
    go_wp2_with fail
    go_ret
    exact ⟨rfl, HB.out⟩
  replace hfw : fw = true := by simpa using hfw
  subst hfw
  have hfw := (HFW.out rfl).1
  clear HFW
  have hlt := blk_lt HX.out
  have hne : bx ≠ w2.heap.size := by omega
  go_wp2_with fail
  clear hlt
  clear y0 y1 y2 y3 y4 y5 y6 y7 y8 y9 y10
  obtain ⟨bg, hbg⟩ : ∃ bg, bg = w2.heap.size := ⟨_, rfl⟩
  rw [← hbg]
  rw [← hbg] at hne
  replace hbg := aside hbg
  go_loopg [7, 8] F.l3.length (fun gg s7 _ wr => ∃ kk : Nat, kk ≤ F.l3.length ∧ F.l3.length - kk ≤ gg ∧ s7 = .int .i64 kk ∧ Aside (Below w2.heap.size w2 wr) ∧ Aside (∃ u, wr.heap[bg]? = some (.cells #[.int .i64 F.s, .int .i64 F.d, .int .i64 F.f, u, .slice A4 F.l4.length c4, .slice A5 F.l5.length c5, .slice A6 F.l6.length c6, .slice A7 F.l7.length c7, .slice none 0 0, .slice none 0 0, .slice A10 F.l10.length c10] 26 (0, 0)) ∧ kChar.R 40 wr w2.heap.size (fun k => k ≠ bg) u ((F.l3.map plainC).take kk)))
  case atStart => exact ⟨0, Nat.zero_le _, by omega, rfl, below_alloc (Below.refl _ _) _, _, by rw [hbg.out]; exact blk_new _ _, Kd.R_nil _ _ _ _ _⟩
  case round =>
    obtain ⟨kk, hkk, hg, rfl, BW, HU⟩ := hrel
    have hb := BW.out
    replace HF := aside ((HF.out).below hb)
    replace H3 := aside (Kd.C_below H3.out hb)
    replace H10 := aside (And.imp (fun h => Kd.C_below h hb) (And.imp (fun h => Kd.C_below h hb) (And.imp (fun h => Kd.C_below h hb) (And.imp (fun h => Kd.C_below h hb) (fun h => Kd.C_below h hb)))) H10.out)
    replace HX := aside (blk_below HX.out hb)
    replace HB := aside (below_next HB.out hb)
    clear hb
    obtain ⟨u, hub, huR⟩ := HU.out
    obtain ⟨y0, y1, y2, y3, y4, y5, y6, y7, y8, y9, y10⟩ := font_cells HX.out
    by_cases hlt : kk < F.l3.length
    · have hltz : (kk : Int) < (F.l3.length : Int) := by omega
      obtain ⟨ad, hA, hcl⟩ := char_cells H3.out (by omega)
      subst hA
      obtain ⟨h0_, h1_, h2_, h3_, h4_, h5_⟩ := hcl kk hlt
      have hc0 : wr.cell? (ad.add (kk * 6)) = some (.int .i64 (F.l3.getD kk zCh).w) := h0_
      have hc1 : wr.cell? ⟨(ad.add (kk * 6)).block, (ad.add (kk * 6)).off + 1, none⟩ = some (.int .i64 (F.l3.getD kk zCh).h) := by rw [← add_field _ _ 1 (by omega)]; exact h1_
      have hc2 : wr.cell? ⟨(ad.add (kk * 6)).block, (ad.add (kk * 6)).off + 2, none⟩ = some (.int .i64 (F.l3.getD kk zCh).d) := by rw [← add_field _ _ 2 (by omega)]; exact h2_
      have hc3 : wr.cell? ⟨(ad.add (kk * 6)).block, (ad.add (kk * 6)).off + 3, none⟩ = some (.int .i64 (F.l3.getD kk zCh).i) := by rw [← add_field _ _ 3 (by omega)]; exact h3_
      have hc4 : wr.cell? ⟨(ad.add (kk * 6)).block, (ad.add (kk * 6)).off + 4, none⟩ = some (.int .i64 (F.l3.getD kk zCh).t) := by rw [← add_field _ _ 4 (by omega)]; exact h4_
      have hc5 : wr.cell? ⟨(ad.add (kk * 6)).block, (ad.add (kk * 6)).off + 5, none⟩ = some (.int .i64 (F.l3.getD kk zCh).r) := by rw [← add_field _ _ 5 (by omega)]; exact h5_
      clear h0_ h1_ h2_ h3_ h4_ h5_ hcl
      have HSN := aside (show (F.l3.map plainC).take kk ++ [plainC (F.l3.getD kk zCh)] = (F.l3.map plainC).take (kk + 1) from map_snoc F.l3 kk hlt)
      generalize F.l3.getD kk zCh = cc at hc0 hc1 hc2 hc3 hc4 hc5 HSN
      obtain ⟨AU, cU, hv⟩ := Kd.R_slice huR
      subst hv
      have hlu : ((F.l3.map plainC).take kk).length = kk := by rw [List.length_take, List.length_map]; omega
      rw [hlu] at hub huR
      replace hlu := aside hlu
      have hbl := blk_lt hub
      have hgc3 := (blk_cell hub 3).trans (show _ = some (.slice AU kk cU) from rfl)
      have hgf3 := blk_frozen hub 3
      have HUB := aside hub
      have HUR := aside huR
      have hbw : w2.heap.size ≤ wr.heap.size := BW.out.size
      clear hub huR HU
      have hal := blk_lt HX.out
      go_wp2_with (at_builtin; refine Kd.R_append kChar (w0 := w2) w2.heap.size rfl (.tmp 33) (.tmp 35) 22 40 (.agg #[.int .i64 0, .int .i64 0, .int .i64 0, .int .i64 0, .int .i64 0, .int .i64 0]) 48 rfl Try.underlying22 info_char rfl (by decide) (by omega) (.slice AU kk cU) ((F.l3.map plainC).take kk) (plainC cc) [.int .i64 cc.w, .int .i64 cc.h, .int .i64 cc.d, .int .i64 cc.i, .int .i64 0, .int .i64 0] (fun k => k ≠ bg) (fun _ => False) rfl ?hx (kChar_M _ _ _ (plainC cc)) (fun _ hk => hk.elim) ?af (Kd.R_alloc HUR.out _) (BW.out.alloc hbw _) ?aS ?al ?_)
      case hx => rw [World.size_alloc]; rfl
      case af => intro k hk; simp at hk; omega
      case aS => simp; omega
      case al => have := hlu.out; omega
      intro v1 w3 hR3 hB3 hg3 _
      have hub3 := (hg3.block bg (by simp; omega) (fun e => (Kd.R_ne HUR.out HUB.out (by decide)) e)).trans (blk_alloc HUB.out _)
      have hc3 := (blk_cell hub3 3).trans (show _ = some (.slice AU kk cU) from rfl)
      have hf3 := blk_frozen hub3 3
      obtain ⟨AV, cV, hv⟩ := Kd.R_slice hR3
      subst hv
      rw [show ((F.l3.map plainC).take kk ++ [plainC cc]).length = kk + 1 by rw [List.length_append, hlu.out]; rfl] at hR3
      have HUB3 := aside hub3
      have HR3 := aside hR3
      have HB3 := aside hB3
      clear hub3 hR3 hB3 hg3
      go_wp2_with fail
      go_roundg (F.l3.length - (kk + 1))
      case measure => omega
      case rel =>
        refine ⟨kk + 1, by omega, by omega, by go_num, HB3.out.setCell (by rw [hbg.out]; exact Nat.le_refl _) _, .slice AV (kk + 1) cV, ?_, ?_⟩
        · exact blk_set HUB3.out 3 _
        · rw [← HSN.out]; exact Kd.R_far HR3.out (fun k hk => hk) _
    · obtain rfl : kk = F.l3.length := by omega
      have hltz : ¬ (F.l3.length : Int) < (F.l3.length : Int) := by omega
      rw [List.take_of_length_le (by rw [List.length_map]; exact Nat.le_refl _)] at huR
      obtain ⟨AU, cU, hv, hcu, hCU⟩ := Kd.R_reads huR
      subst hv
      have hG : FontOf wr (.agg #[.int .i64 F.s, .int .i64 F.d, .int .i64 F.f, .slice AU (F.l3.map plainC).length cU, .slice A4 F.l4.length c4, .slice A5 F.l5.length c5, .slice A6 F.l6.length c6, .slice A7 F.l7.length c7, .slice none 0 0, .slice none 0 0, .slice A10 F.l10.length c10]) (plainF F) := ⟨AU, A4, A5, A6, A7, none, none, A10, cU, c4, c5, c6, c7, 0, 0, c10, rfl, hCU, H10.out.1, H10.out.2.1, H10.out.2.2.1, H10.out.2.2.2.1, Kd.C_nil _ _, Kd.C_nil _ _, H10.out.2.2.2.2⟩
      have HZ := aside hub
      clear hub huR hCU HU
      have hlu : (F.l3.map plainC).length = F.l3.length := by rw [List.length_map]
      rw [hlu] at HZ hG
      clear hlu
      have HCF := aside (fun W (hW : Below wr.heap.size wr W) => check_of (HF.out.below hW))
      have HCG := aside (fun W (hW : Below wr.heap.size wr W) => check_of (hG.below hW))
      have HHF := aside (fun W (hW : Below wr.heap.size wr W) => has_of code (HF.out.below hW))
      have HHG := aside (fun W (hW : Below wr.heap.size wr W) => has_of code (hG.below hW))
      have hk0 : (checkF F = false ∧ hasF F code = false) ∨ (checkF F = true ∧ checkF (plainF F) = true ∧ hasF (plainF F) code = hasF F code) := by
        by_cases hk : checkF F = true
        · exact .inr ⟨hk, plain_check hk, plain_has hk code⟩
        · refine .inl ⟨by simpa using hk, ?_⟩
          cases hh : hasF F code with
          | false => rfl
          | true => exact absurd (has_check hh) hk
      have e1 : hasB F.s F.d F.f F.l3 F.l4 F.l5 F.l6 F.l7 F.l8 F.l9 F.l10 code = hasF F code := rfl
      have e2 : hasB (plainF F).s (plainF F).d (plainF F).f (plainF F).l3 (plainF F).l4 (plainF F).l5 (plainF F).l6 (plainF F).l7 (plainF F).l8 (plainF F).l9 (plainF F).l10 code = hasF (plainF F) code := rfl
      rw [e1] at HHF
      rw [e2] at HHG
      clear e1 e2 hG
      obtain ⟨z0, z1, z2, z3, z4, z5, z6, z7, z8, z9, z10⟩ := font_cells HZ.out
      generalize checkF F = k1 at HCF hk0
      generalize checkF (plainF F) = k2 at HCG hk0
      generalize hasF F code = h1 at HHF hk0
      generalize hasF (plainF F) code = h2 at HHG hk0
      have hcase : (k1 = false ∧ h1 = false) ∨ (k1 = true ∧ k2 = true ∧ h1 = true ∧ h2 = true) ∨ (k1 = true ∧ k2 = true ∧ h1 = false ∧ h2 = false) := by cases h1 <;> cases h2 <;> simp_all
      clear hk0
      obtain ⟨rfl, rfl⟩ | ⟨rfl, rfl, rfl, rfl⟩ | ⟨rfl, rfl, rfl, rfl⟩ := hcase
      · go_wp2_with fail
        replace y0 := over_cell y0
        replace y1 := over_cell y1
        replace y2 := over_cell y2
        replace y3 := over_cell y3
        replace y4 := over_cell y4
        replace y5 := over_cell y5
        replace y6 := over_cell y6
        replace y7 := over_cell y7
        replace y8 := over_cell y8
        replace y9 := over_cell y9
        replace y10 := over_cell y10
        replace z0 := over_cell z0
        replace z1 := over_cell z1
        replace z2 := over_cell z2
        replace z3 := over_cell z3
        replace z4 := over_cell z4
        replace z5 := over_cell z5
        replace z6 := over_cell z6
        replace z7 := over_cell z7
        replace z8 := over_cell z8
        replace z9 := over_cell z9
        replace z10 := over_cell z10
        refine wp_region_over (by kernel_rfl) (by kernel_rfl) ?_
        repeat (first | go_big_quiet_skip | (go_big_quiet_want; go_big_quiet_op; first | go_big_quiet_on | go_big_quiet_call ((first | (go_at_call 12; first | (with_reducible exact calls_over (HCF.out _ (Over.h _))) | (with_reducible exact calls_over (HCG.out _ (Over.h _)))) | (go_at_call 13; first | (with_reducible exact calls_over (HHF.out _ (Over.h _))) | (with_reducible exact calls_over (HHG.out _ (Over.h _))))))))
        refine wpQuiet_nil ?_
        intro _ hw'
        obtain ⟨tq, hw''⟩ := hw'
        subst hw''
        go_wp2_with fail
        go_ret
        exact ⟨rfl, below_next HB.out tq.h⟩
      · go_wp2_with fail
        replace y0 := over_cell y0
        replace y1 := over_cell y1
        replace y2 := over_cell y2
        replace y3 := over_cell y3
        replace y4 := over_cell y4
        replace y5 := over_cell y5
        replace y6 := over_cell y6
        replace y7 := over_cell y7
        replace y8 := over_cell y8
        replace y9 := over_cell y9
        replace y10 := over_cell y10
        replace z0 := over_cell z0
        replace z1 := over_cell z1
        replace z2 := over_cell z2
        replace z3 := over_cell z3
        replace z4 := over_cell z4
        replace z5 := over_cell z5
        replace z6 := over_cell z6
        replace z7 := over_cell z7
        replace z8 := over_cell z8
        replace z9 := over_cell z9
        replace z10 := over_cell z10
        refine wp_region_over (by kernel_rfl) (by kernel_rfl) ?_
        repeat (first | go_big_quiet_skip | (go_big_quiet_want; go_big_quiet_op; first | go_big_quiet_on | go_big_quiet_call ((first | (go_at_call 12; first | (with_reducible exact calls_over (HCF.out _ (Over.h _))) | (with_reducible exact calls_over (HCG.out _ (Over.h _)))) | (go_at_call 13; first | (with_reducible exact calls_over (HHF.out _ (Over.h _))) | (with_reducible exact calls_over (HHG.out _ (Over.h _))))))))
        refine wpQuiet_nil ?_
        intro _ hw'
        obtain ⟨tq, hw''⟩ := hw'
        subst hw''
        go_wp2_with fail
        go_ret
        exact ⟨rfl, below_next HB.out tq.h⟩
      · go_wp2_with fail
        replace y0 := over_cell y0
        replace y1 := over_cell y1
        replace y2 := over_cell y2
        replace y3 := over_cell y3
        replace y4 := over_cell y4
        replace y5 := over_cell y5
        replace y6 := over_cell y6
        replace y7 := over_cell y7
        replace y8 := over_cell y8
        replace y9 := over_cell y9
        replace y10 := over_cell y10
        replace z0 := over_cell z0
        replace z1 := over_cell z1
        replace z2 := over_cell z2
        replace z3 := over_cell z3
        replace z4 := over_cell z4
        replace z5 := over_cell z5
        replace z6 := over_cell z6
        replace z7 := over_cell z7
        replace z8 := over_cell z8
        replace z9 := over_cell z9
        replace z10 := over_cell z10
        refine wp_region_over (by kernel_rfl) (by kernel_rfl) ?_
        repeat (first | go_big_quiet_skip | (go_big_quiet_want; go_big_quiet_op; first | go_big_quiet_on | go_big_quiet_call ((first | (go_at_call 12; first | (with_reducible exact calls_over (HCF.out _ (Over.h _))) | (with_reducible exact calls_over (HCG.out _ (Over.h _)))) | (go_at_call 13; first | (with_reducible exact calls_over (HHF.out _ (Over.h _))) | (with_reducible exact calls_over (HHG.out _ (Over.h _))))))))
        refine wpQuiet_nil ?_
        intro _ hw'
        obtain ⟨tq, hw''⟩ := hw'
        subst hw''
        go_wp2_with fail
        go_ret
        exact ⟨rfl, below_next HB.out tq.h⟩
end Go.Proofs.Ytllllmhekdcbiaa
