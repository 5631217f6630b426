/- trie's Values, walked: the numbers of a word's places. -/
import Derived.Test.YtcignolfkocjeaaTrieVals
import Derived.DataShut
set_option linter.unusedVariables false
set_option linter.unusedSimpArgs false
namespace Go.Proofs.Ytcignolfkocjeaa
open Go.RowKit Go.Proofs.YtcignolfkocjeaaW.PrintWords

theorem info8 : (Try.prog.info? 5).map (fun i => i.size) = some 1 := by kernel_rfl
theorem dotS_bytes (s : ByteArray) : bytesOf (⟨#[46]⟩ ++ s ++ ⟨#[46]⟩ : ByteArray) = dotS (bytesOf s) := by
  unfold bytesOf dotS
  simp
theorem dotS_length (l : List Int) : (dotS l).length = l.length + 2 := by simp [dotS]
theorem TrieDone.below {W W' : World} {Y Z : Nat → Prop} {b rs rv : Nat} {c0 : Value} {L : List PatR} (h : TrieDone W Y Z b L rs rv c0) (hb : Below W.heap.size W W') : TrieDone W' Y Z b L rs rv c0 :=
  ⟨fun k hk => Nat.lt_of_lt_of_le (h.lt k hk) hb.size, fun k hk => Nat.lt_of_lt_of_le (h.zlt k hk) hb.size, h.dis, Kd.R_below h.row hb, h.tm.move fun k hk => hb.block k (h.lt k hk)⟩
theorem TrieDone.keepg {W W' : World} {Y Z : Nat → Prop} {b rs rv g : Nat} {c0 : Value} {L : List PatR} (h : TrieDone W Y Z b L rs rv c0) (hk : Keep (fun k => k = g) W W') (hY : ∀ k, Y k → k ≠ g) (hZ : ∀ k, Z k → k ≠ g) : TrieDone W' Y Z b L rs rv c0 :=
  ⟨fun k hk' => Nat.lt_of_lt_of_le (h.lt k hk') hk.size, fun k hk' => Nat.lt_of_lt_of_le (h.zlt k hk') hk.size, h.dis, Kd.R_step h.row (fun k ho hlt => hk.block k hlt (hZ k ho)), h.tm.move fun k hy => hk.block k (h.lt k hy) (hY k hy)⟩
theorem far_block {k : IntKind} {w : World} {A : Option Addr} {v : List Int} (hC : (Kd.int k).C w A v.length v) : ∀ ad, A = some ad → 0 < v.length → ad.block < w.heap.size := by
  intro ad e hp
  obtain ⟨ad', e', hc⟩ := int_cells' hC hp
  rw [e] at e'; cases e'
  have := World.block_lt_of_cell? w _ (hc 0 hp)
  have e2 : (ad.add 0).block = ad.block := by unfold Addr.add; split <;> rfl
  rw [e2] at this; exact this
theorem c_farK {k : IntKind} {w W : World} {g : Nat} {A : Option Addr} {v : List Int} (hC : (Kd.int k).C w A v.length v) (hk : Keep (fun j => j = g) w W) (hf : ∀ ad, A = some ad → 0 < v.length → ad.block ≠ g) : (Kd.int k).C W A v.length v := by
  refine Kd.C_of_reads (d := (0 : Int)) (enc := Value.int k) (h1 := fun _ => rfl) ?_
  obtain ⟨r1, r2, r3⟩ := Kd.reads_of_C (enc := Value.int k) (d := (0 : Int)) (h1 := fun _ => rfl) hC
  refine ⟨r1, r2, fun hp => ?_⟩
  obtain ⟨ad, e, hc⟩ := r3 hp
  refine ⟨ad, e, fun j hj => hk.cell (hc j hj) ?_⟩
  have : (ad.add j).block = ad.block := by unfold Addr.add; split <;> rfl
  rw [this]; exact hf ad e hp
theorem cut_u8 (A : Option Addr) (c : Nat) (xs : List Int) (m : Nat) (hm : m ≤ xs.length) (hc : xs.length ≤ c) :
    ∃ A' : Option Addr, (∀ W : World, (Instr.slice 54 (.slice A xs.length c) (some (.int .i64 m)) none none).run Try.prog W = .ok (.slice A' (xs.length - m) (c - m)) W) ∧
      (∀ w : World, (Kd.int .u8).C w A xs.length xs → (Kd.int .u8).C w A' (xs.drop m).length (xs.drop m)) := by
  obtain ⟨i, hi, hz⟩ := Option.map_eq_some_iff.1 info8
  obtain ⟨A', h1, h2, -⟩ := print_drop_of (P := Try.prog) (Value.int .u8) (0 : Int) 54 5 .i64 Try.underlying54 hi hz A c xs m (by omega) (by omega) hc
  simp only [Int.toNat_natCast] at h1 h2
  refine ⟨A', fun W => ?_, fun w h => Kd.C_of_reads (h2 w (Kd.reads_of_C h))⟩
  rw [← List.length_drop]; exact h1 W
/-- A node's row, or none: looked up. -/
theorem look_row {W : World} {X : Nat → Prop} {rv : Nat} {V : List (Int × List Int)} (h : ValsAt W X rv V) {a : Int} (ha : 0 ≤ a ∧ a ≤ 9223372036854775807) :
    ∃ A c, (Instr.lookup 78 (.map (some rv)) (.int .i64 a) false).run Try.prog W = .ok (.slice A ((lkV V a).getD []).length c) W ∧ (Kd.int .i64).C W A ((lkV V a).getD []).length ((lkV V a).getD []) ∧ ∀ ad, A = some ad → X ad.block := by
  cases hl : lkV V a with
  | none => exact ⟨none, 0, look_val_no h ha hl, Kd.C_nil _ _, fun ad e => nomatch e⟩
  | some xs =>
    obtain ⟨M, hM, h2, h3, h4, m, hm, hn, hx, hr⟩ := look_val_yes h hl
    subst hx
    refine ⟨_, _, hr, ?_, fun ad e => by cases e; exact (h3 m hm).2⟩
    exact (Kd.R_reads' (h3 m hm).1.2).2.2
theorem stepTo_row (T : TrieS) (all : List Int) (i : Nat) (n : Int) : stepTo T all i n = rowTo all i ((lkV T.V n).getD []) ((lkV T.V n).getD []).length := by
  unfold stepTo
  cases lkV T.V n <;> rfl
theorem row_fits' {T : TrieS} {path : Int → List Int} (hT : TInv T path) (n : Int) : ((lkV T.V n).getD []).length ≤ (path n).length + 1 := by
  cases h : lkV T.V n with
  | none => simp
  | some xs => exact Nat.le_of_eq (row_fits hT h)

attribute [local go_sem] max2_ints max_pair

set_option maxHeartbeats 1600000 in
set_option maxRecDepth 100000 in
theorem values_any (W : World) (Y Z : Nat → Prop) (b : Nat) (L : List PatR) (s : ByteArray) (h : TrieIs W Y Z b L) (hL : ∀ x, x ∈ L → PatGood x) (hn : L.length ≤ 300) (hs : s.size ≤ 60) :
    Calls Try.prog 18 #[.pointer (some ⟨b, 0, none⟩), .string s] W fun e w' => ∃ v Y', e = .returned v ∧ TrieIs w' Y' Z b L ∧ (∀ k, Y' k → Y k ∨ W.heap.size ≤ k) ∧ Keep Y W w' ∧
      (Kd.int .i64).R 3 w' W.heap.size (fun k => ¬ Y' k) v (valuesS L s) := by
  have hnot : ∀ (x : Bool) (w : World), (Op.unary .not (.bool x)).run Try.prog w = .ok (.bool (!x)) w := fun _ _ => rfl
  have HP := aside (tplain_any s W hs)
  have HH := aside h
  cases hq : plainB s with
  | false =>
    rw [hq] at HP
    have HV := aside (show valuesS L s = [] from by unfold valuesS; rw [hq]; rfl)
    clear h hL
    go_enter Try.func18, Try.ntmps18
    go_wp2_with (go_at_call 34; refine HP.out.mono ?_; rintro e w' ⟨rfl, hb'⟩)
    go_ret
    exact ⟨_, Y, rfl, HH.out.below hb', fun k hk => .inl hk, Keep.of_below hb', by rw [HV.out]; exact Kd.R_nil _ _ _ _ _⟩
  | true =>
    rw [hq] at HP
    have HV := aside (show valuesS L s = valuesT (buildT L) (dotS (bytesOf s)) from by unfold valuesS; rw [hq]; rfl)
    have HM := aside (fun W' (hW : Below W.heap.size W W') => made_any W' Y Z b L (h.below hW) hL hn)
    have kb := fun s W => print_bytes (P := Try.prog) 9 54 5 Try.underlying9 Try.underlying54 Try.underlying5 s W
    have HL := aside hL
    have HZ := aside (show List.replicate ((1 : Int) + s.size + 1 + 1).toNat (0 : Int) = allTo (buildT L) (dotS (bytesOf s)) 0 from by simp only [allTo]; rw [dotS_length, bytesOf_length]; congr 1; omega)
    clear h hL
    go_enter Try.func18, Try.ntmps18
    go_upto_region 5 with (first
      | (go_at_call 34; refine HP.out.mono ?_; rintro e w' ⟨rfl, hb'⟩)
      | (go_at_call 35; refine (HM.out _ hb').mono ?_; rintro e w1 ⟨rfl, rs, rv, c0, hD, hK⟩))
    have HD := aside hD
    have HK := aside hK
    have HB' := aside hb'
    have hsb := dotS_bytes s
    clear hD hK hb' HM HP
    generalize ((⟨#[46]⟩ : ByteArray) ++ s ++ ⟨#[46]⟩) = s2 at hsb ⊢
    have hs2 : s2.size = 1 + s.size + 1 := by rw [← bytesOf_length, hsb, dotS_length, bytesOf_length]; omega
    have hCb : (Kd.int .u8).C (Lib.bytesWorld w1 5 s2) (some ⟨w1.heap.size, 0, none⟩) (dotS (bytesOf s)).length (dotS (bytesOf s)) := by
      have := Kd.C_of_reads (d := (0 : Int)) (enc := Value.int .u8) (h1 := fun _ => rfl) (bytes_reads w1 5 s2 (by omega))
      rw [hsb] at this
      rw [dotS_length, bytesOf_length, show s.size + 2 = s2.size from by omega]
      exact this
    have hBw : Below w1.heap.size w1 (Lib.bytesWorld w1 5 s2) := bytes_below (Below.refl _ _) (Nat.le_refl _) _ _
    have hDw := HD.out.below hBw
    have hgc : (dotS (bytesOf s)).length ≤ grownCap w1 (1 + s.size + 1) 0 5 := by
      rw [dotS_length, bytesOf_length]; exact Nat.le_trans (by omega) (grownCap_ge w1 (1 + s.size + 1) 0 5)
    generalize grownCap w1 (1 + s.size + 1) 0 5 = gc at hgc ⊢
    have HCB := aside hCb
    have HBW := aside hBw
    have HDW := aside hDw
    have HGC := aside hgc
    have hnbl : w1.heap.size < (Lib.bytesWorld w1 5 s2).heap.size := by rw [Lib.bytesWorld_size]; omega
    have HRG := aside (show ∀ k, 0 ≤ (dotS (bytesOf s)).getD k 0 ∧ (dotS (bytesOf s)).getD k 0 ≤ 255 from by rw [← hsb]; exact byte_range s2)
    generalize Lib.bytesWorld w1 5 s2 = wb at HCB HBW HDW hnbl ⊢
    generalize w1.heap.size = nb at HCB hnbl ⊢
    clear hCb hBw hDw hgc hsb hs2
    have HW := aside (show Keep Y W w1 from (Keep.of_below HB'.out).trans HK.out (fun _ _ h => h))
    have hws := HW.out.size
    have hwb := HBW.out.size
    go_wp2_with (
      (refine gate_ (.makeSlice 32 (.tmp 30) (.tmp 30)) rfl ?_
       refine Kd.R_make (Kd.int .i64) (w0 := wb) (W := wb) wb.heap.size 3 rfl (N := 31) rfl 32 (.tmp 30) (.tmp 30) rfl (1 + s.size + 1 + 1) rfl rfl Try.underlying32 (.int .i64 0) 8 infoInt rfl (by decide) (by omega) (0 : Int) (ok := fun _ => True) (okp := fun _ => False) rfl (fun _ h => h.elim) trivial (by omega) (by omega) (Below.refl _ _) (Nat.le_refl _) ?_
       intro v1 w2 hR2 hB2 hg2 hat2
       rw [HZ.out] at hR2
       obtain ⟨g, cap, hv1, hgg, hgl, cells, hcell⟩ := Kd.R_form hR2 (by rw [allTo_length]; omega)
       have hlz := allTo_length (buildT L) (dotS (bytesOf s)) 0
       rw [dotS_length, bytesOf_length] at hlz
       have hlz : _ = s.size + 3 := hlz
       rw [hlz] at hv1
       subst hv1
       have HR2 := aside hR2
       have HB2 := aside hB2
       clear hR2 hB2 hg2 hat2 hcell hgl hlz))
    have HD2 := aside (HDW.out.below HB2.out)
    obtain ⟨path, hP, hPN⟩ := TInv.build L HL.out
    have hsz := sizes_le L HL.out
    have HPP := aside hP
    have hN : (buildT L).N ≤ 20000 := by omega
    have HZG := aside (show ∀ k, Z k → k ≠ g from fun k hk e => by have := HDW.out.zlt k hk; omega)
    have hng : nb ≠ g := by omega
    have HYG := aside (show ∀ k, (Y k ∨ (w'.heap.size ≤ k ∧ k < w1.heap.size)) → k ≠ g from fun k hk e => by have := HDW.out.lt k hk; omega)
    have HR0 := aside (show (Kd.int .i64).R 3 w2 0 (fun k => k = g) (.slice (some ⟨g, 0, none⟩) (s.size + 3) cap) (allTo (buildT L) (dotS (bytesOf s)) 0) from
      Kd.R_lower (Kd.R_of_own (Kd.own_of_R HR2.out) (fun k hk => by simp [Value.ownBlock] at hk; exact hk.symm)) (Nat.zero_le _))
    obtain ⟨sl, hsl⟩ : ∃ sl, sl = dotS (bytesOf s) := ⟨_, rfl⟩
    have HSL := aside (show sl.length = s.size + 2 from by rw [hsl, dotS_length, bytesOf_length])
    rw [← hsl] at HCB HR0 HGC HRG HV
    have HSE := aside hsl
    have HCAP := aside (Kd.R_reads' HR0.out).2.1
    have HD5 := aside ((blk_cell HD2.out.tm.hb 5).trans (show _ = some (.map (some rs)) from rfl))
    have HD6 := aside ((blk_cell HD2.out.tm.hb 6).trans (show _ = some (.map (some rv)) from rfl))
    have hbg : b ≠ g := HYG.out b HD2.out.tm.xb
    have hN0 : 1 ≤ (buildT L).N := HPP.out.1.2.1
    clear hP hPN hsz hsl HR2 HZ
    go_loopg [34] (s.size + 2) (fun gg s34 wr => ∃ i : Nat, i ≤ s.size + 2 ∧ s.size + 2 - i ≤ gg ∧ s34 = .int .i64 i ∧ Aside (Keep (fun k => k = g) w2 wr) ∧ Aside ((Kd.int .i64).R 3 wr 0 (fun k => k = g) (.slice (some ⟨g, 0, none⟩) (s.size + 3) cap) (allTo (buildT L) sl i)))
    case atStart => exact ⟨0, Nat.zero_le _, by omega, rfl, Keep.refl _ _, HR0⟩
    case round =>
      obtain ⟨i, hi, hg, rfl, KP, RA⟩ := hrel
      by_cases hlt : i < s.size + 2
      · have hltz : (i : Int) < 1 + (s.size : Int) + 1 := by omega
        obtain ⟨A', hcut, hCc⟩ := cut_u8 (some ⟨nb, 0, none⟩) gc sl i (by rw [HSL.out]; omega) HGC.out
        rw [HSL.out, show s.size + 2 = 1 + s.size + 1 from by omega] at hcut
        have HCC := aside (hCc wb HCB.out)
        clear hCc
        go_wp2_with fail
        go_loopg [8, 41] (s.size + 2 - i) (fun gg s8 s41 wr => ∃ (j : Nat) (at_ : Int) (all : List Int), i + j ≤ s.size + 2 ∧ s.size + 2 - i - j ≤ gg ∧ s8 = .int .i64 at_ ∧ s41 = .int .i64 j ∧ 0 ≤ at_ ∧ at_ < (buildT L).N ∧ Aside ((path at_).length = j) ∧ Aside (allTo (buildT L) sl (i + 1) = walkTo (buildT L) i (sl.drop (i + j)) at_ all) ∧ Aside (all.length = s.size + 3) ∧ Aside (Keep (fun k => k = g) w2 wr) ∧ Aside ((Kd.int .i64).R 3 wr 0 (fun k => k = g) (.slice (some ⟨g, 0, none⟩) (s.size + 3) cap) all))
        case atStart => exact ⟨0, 0, allTo (buildT L) sl i, by omega, by omega, rfl, rfl, by omega, by omega, aside (by rw [HPP.out.1.1]; rfl), aside rfl, aside (by rw [allTo_length, HSL.out]), KP, RA⟩
        case round =>
          obtain ⟨j, at_, all, hj, hgj, rfl, rfl, ha0, haN, HPA, HWK, HAL, KQ, RQ⟩ := hrel
          by_cases hjt : j < 1 + s.size + 1 - i
          · have hjz : (j : Int) < ((1 + s.size + 1 - i : Nat) : Int) := by omega
            have hCr := c_farK HCC.out ((Keep.of_below HB2.out).trans KQ.out (fun _ _ h => h)) (fun ad e hp => by have := far_block HCC.out ad e hp; omega)
            obtain ⟨ad, hA, hF⟩ := int_cells' hCr (by rw [List.length_drop, HSL.out]; omega)
            subst hA
            have hcb := hF j (by rw [List.length_drop, HSL.out]; omega)
            have hdx : (sl.drop i).getD j 0 = sl.getD (i + j) 0 := by simp [List.getD_eq_getElem?_getD, List.getElem?_drop]
            rw [hdx] at hcb
            have hrange := HRG.out (i + j)
            have hdrop : sl.drop (i + j) = sl.getD (i + j) 0 :: sl.drop (i + (j + 1)) := by
              have hl : i + j < sl.length := by rw [HSL.out]; omega
              rw [List.drop_eq_getElem_cons hl, List.getD_eq_getElem?_getD, List.getElem?_eq_getElem hl]; rfl
            have hwk := HWK.out
            rw [hdrop] at hwk
            clear hF hdrop hdx hCr
            generalize sl.getD (i + j) 0 = x at hcb hwk hrange
            have hT := HD2.out.keepg KQ.out HYG.out HZG.out
            have hm5 := KQ.out.cell HD5.out hbg
            have hm6 := KQ.out.cell HD6.out hbg
            have HT := aside hT
            clear hT
            cases hl : lkS (buildT L).S at_ x with
            | none =>
              have hlk := look_step_no HT.out.tm.hs (a := at_) (b := x) ⟨by omega, by omega⟩ hrange hl
              simp only [walkTo, hl] at hwk
              have HE := aside hwk
              clear hwk hl HWK
              go_wp2_with fail
              go_roundg (s.size + 2 - (i + 1))
              case measure => omega
              case rel => exact ⟨i + 1, by omega, by omega, by go_num, KQ, by rw [HE.out]; exact RQ⟩
            | some n =>
              have hlk := look_step_yes HT.out.tm.hs hl
              obtain ⟨hn, hpn⟩ := step_path HPP.out hl
              obtain ⟨A2, c2, hlr, hCr, hfr⟩ := look_row HT.out.tm.hv (a := n) ⟨hn.1, by omega⟩
              simp only [walkTo, hl] at hwk
              have hfit := row_fits' HPP.out n
              rw [stepTo_row] at hwk
              generalize (lkV (buildT L).V n).getD [] = xs at hlr hCr hwk hfit
              rw [hpn, HPA.out] at hfit
              have HE := aside hwk
              have HCR := aside hCr
              have HFR := aside hfr
              have HPN := aside (show (path n).length = j + 1 from by rw [hpn, HPA.out])
              clear hwk hl HWK hCr hfr hpn
              go_wp2_with fail
              go_loopg [66] xs.length (fun gg s66 wq => ∃ k : Nat, k ≤ xs.length ∧ xs.length - k ≤ gg ∧ s66 = .int .i64 k ∧ Aside (Keep (fun k => k = g) w2 wq) ∧ Aside (Keep (fun k => k = g) wr wq) ∧ Aside ((Kd.int .i64).R 3 wq 0 (fun k => k = g) (.slice (some ⟨g, 0, none⟩) (s.size + 3) cap) (rowTo all i xs k)))
              case atStart => exact ⟨0, Nat.zero_le _, by omega, rfl, KQ, Keep.refl _ _, RQ⟩
              case round =>
                obtain ⟨k, hk, hgk, rfl, KQ2, KR, RR⟩ := hrel
                by_cases hkt : k < xs.length
                · have hkz : (k : Int) < (xs.length : Int) := by omega
                  obtain ⟨ad2, hA2, hF2⟩ := int_cells' (c_farK HCR.out KR.out (fun ad e hp => HYG.out _ (HFR.out ad e))) (by omega)
                  subst hA2
                  have hcv := hF2 k hkt
                  obtain ⟨hco, hfo⟩ := Kd.R_celln (0 : Int) RR.out ((i + k : Nat) : Int) (by omega) (by omega)
                  have hset := Kd.R_putg RR.out ((i + k : Nat) : Int) (max ((rowTo all i xs k).getD (i + k) 0) (xs.getD k 0))
                  rw [Int.toNat_natCast] at hco hfo hset
                  have HSET := aside hset
                  have hco' : wr.cell? ⟨g, i + k, none⟩ = some (.int .i64 ((rowTo all i xs k).getD (i + k) 0)) := hco
                  have hik : (i : Int) + k < s.size + 3 := by omega
                  have HRT := aside (show rowTo all i xs (k + 1) = (rowTo all i xs k).set (i + k) (max ((rowTo all i xs k).getD (i + k) 0) (xs.getD k 0)) from rfl)
                  clear hF2 hset hco
                  generalize (rowTo all i xs k).getD (i + k) 0 = o at hco' HSET HRT
                  generalize xs.getD k 0 = p at hcv HSET HRT
                  go_wp2_with fail
                  go_roundg (xs.length - (k + 1))
                  case measure => omega
                  case rel => exact ⟨k + 1, by omega, by omega, by go_num, KQ2.out.trans (Keep.of_grown HSET.out.2 (fun j e => by cases e; rfl)) (fun _ _ h => h), KR.out.trans (Keep.of_grown HSET.out.2 (fun j e => by cases e; rfl)) (fun _ _ h => h), by rw [HRT.out]; exact HSET.out.1⟩
                · have hkz : ¬ (k : Int) < (xs.length : Int) := by omega
                  obtain rfl : k = xs.length := by omega
                  go_wp2_with fail
                  go_roundg (s.size + 2 - i - (j + 1))
                  case measure => omega
                  case rel => exact ⟨j + 1, n, rowTo all i xs xs.length, by omega, by omega, rfl, by go_num, hn.1, hn.2, HPN, HE, aside (by rw [rowTo_length]; exact HAL.out), KQ2, RR⟩
          · have hjz : ¬ (j : Int) < ((1 + s.size + 1 - i : Nat) : Int) := by omega
            have hjn : i + j = s.size + 2 := by omega
            have HE := aside (show allTo (buildT L) sl (i + 1) = all from by
              rw [HWK.out, List.drop_of_length_le (by rw [HSL.out]; omega)]; rfl)
            go_wp2_with fail
            go_roundg (s.size + 2 - (i + 1))
            case measure => omega
            case rel => exact ⟨i + 1, by omega, by omega, by go_num, KQ, by rw [HE.out]; exact RQ⟩
      · have hltz : ¬ (i : Int) < 1 + (s.size : Int) + 1 := by omega
        obtain rfl : i = s.size + 2 := by omega
        have hcap := HCAP.out
        have hCA := (Kd.R_reads' RA.out).2.2
        have hCM := Kd.C_mid (lo := 1) (hi := s.size + 2) hCA (by omega) (by rw [allTo_length, HSL.out]; omega) (by rw [allTo_length, HSL.out]; exact hcap)
        rw [if_neg (show ¬ cap = 1 by omega)] at hCM
        have HCM := aside hCM
        have HLV := aside (show (valuesT (buildT L) sl).length = 1 + s.size from by rw [valuesT_length, HSL.out]; omega)
        have HVE := aside (show valuesT (buildT L) sl = ((allTo (buildT L) sl (s.size + 2)).take (s.size + 2)).drop 1 from by unfold valuesT; rw [HSL.out])
        have HCL := aside (iclone_any (some ⟨g, 1, none⟩) (cap - 1) (valuesT (buildT L) sl) wr (by rw [HVE.out]; exact HCM.out) (by rw [HLV.out]; omega))
        rw [HLV.out] at HCL
        clear hCA hCM
        go_wp2_with (go_at_call 31; refine HCL.out.mono ?_; rintro e w4 ⟨v4, rfl, hR4, hb4⟩)
        go_ret
        have hTf := ((HD2.out.keepg KP.out HYG.out HZG.out).below hb4).is
        have hks := KP.out.size
        have hb2s := HB2.out.size
        refine ⟨_, _, rfl, hTf, fun k hk => ?_, ?_, ?_⟩
        · rcases hk with hk | hk
          · exact .inl hk
          · exact .inr (Nat.le_trans HB'.out.size hk.1)
        · exact ((((HW.out.trans (Keep.of_below HBW.out) (fun _ _ h => h)).trans (Keep.of_below HB2.out) (fun _ _ h => h)).trans KP.out (fun k hk e => by omega)).trans (Keep.of_below hb4) (fun _ _ h => h))
        · rw [HV.out]
          refine Kd.R_lower (Kd.R_mono (Kd.R_bound hR4) (fun k hk hy => ?_)) (by omega)
          have := HDW.out.lt k hy
          omega
end Go.Proofs.Ytcignolfkocjeaa
