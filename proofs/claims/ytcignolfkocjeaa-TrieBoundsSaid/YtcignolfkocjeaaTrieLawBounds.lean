/- compositorlaw11.TrieBounds, walked. -/
import Derived.Test.YtcignolfkocjeaaTrieAwake
set_option linter.unusedVariables false
set_option linter.unusedSimpArgs false
namespace Go.Proofs.Ytcignolfkocjeaa
open Go.RowKit Go.Proofs.YtcignolfkocjeaaW.PrintWords

theorem valuesS_digs {l : List PatR} (hl : ∀ x, x ∈ l → PatGood x) (s : ByteArray) : Digs (valuesS l s) := by
  unfold valuesS; split
  · obtain ⟨path, hP, -⟩ := TInv.build l hl
    exact valuesT_digs hP _
  · intro n hn; simp at hn
theorem valuesS_length (l : List PatR) (s : ByteArray) : (valuesS l s).length = if plainB s = true then s.size + 1 else 0 := by
  unfold valuesS; split
  · rw [valuesT_length, dotS_length, bytesOf_length]; omega
  · rfl
set_option maxHeartbeats 1600000 in
set_option maxRecDepth 100000 in
theorem lawbounds_any (v : Value) (l : List PatR) (m : List ExcR) (s : ByteArray) (w : World) (h : PatsOf w v l m) :
    Calls Try.prog 6 #[v, .string s] w fun e w' => e = .returned (.bool true) ∧ Below w.heap.size w w' := by
  have hnot : ∀ (x : Bool) (w : World), (Op.unary .not (.bool x)).run Try.prog w = .ok (.bool (!x)) w := fun _ _ => rfl
  obtain ⟨r, hr, hcall⟩ := few_any v l m w h
  have HH := aside h
  obtain ⟨A, c, B, d, rfl, h2, h3, h4, h5⟩ := h
  have HC := aside h4
  have HCALL := aside hcall
  have HFR := aside hr
  have hm4 := h4.2.1
  clear h4 h5 h3 hcall hr
  go_enter Try.func6, Try.ntmps6
  go_wp2_with fail
  obtain ⟨W1, hW1⟩ : ∃ W1, W1 = w.alloc (.cells #[.slice A l.length c, .slice B m.length d] 25) := ⟨_, rfl⟩
  have HB0 := aside (show Below w.heap.size w W1 from by rw [hW1]; exact below_alloc (Below.refl _ _) _)
  have HX0 := aside (show W1.heap[w.heap.size]? = some (.cells #[.slice A l.length c, .slice B m.length d] 25 (0, 0)) from by rw [hW1]; exact blk_new _ _)
  rw [← hW1]
  obtain ⟨bx, hbx⟩ : ∃ bx, bx = w.heap.size := ⟨_, rfl⟩
  rw [← hbx] at HX0 ⊢
  have HBX := aside hbx
  clear hW1 hbx
  refine (awake11_any W1).mono ?_
  rintro e w1 ⟨rfl, hb1⟩
  have HB1 := aside (below_next HB0.out hb1)
  have HX1 := aside ((hb1.block bx (blk_lt HX0.out)).trans HX0.out)
  have lx := blk_lt HX1.out
  have hx0 := (blk_cell HX1.out 0).trans (show _ = some (.slice A l.length c) from rfl)
  have hx1 := (blk_cell HX1.out 1).trans (show _ = some (.slice B m.length d) from rfl)
  clear hb1
  go_wp2_with fail
  refine (HCALL.out w1 HB1.out).mono ?_
  rintro e w2 ⟨rfl, hb2⟩
  have HB2 := aside (below_next HB1.out hb2)
  have HX2 := aside ((hb2.block bx (blk_lt HX1.out)).trans HX1.out)
  clear hb2 lx hx0 hx1
  cases r with
  | false =>
    go_wp2_with fail
    go_ret
    exact ⟨rfl, HB2.out⟩
  | true =>
    by_cases hs : 60 < s.size
    · have hsz : (60 : Int) < s.size := by omega
      go_wp2_with fail
      go_ret
      exact ⟨rfl, HB2.out⟩
    have hsz : ¬ (60 : Int) < s.size := by omega
    obtain ⟨hO, hE, hl3, hm3, -⟩ := HFR.out rfl
    have HO := aside hO
    have HE := aside hE
    have lx := blk_lt HX2.out
    have hx0 := (blk_cell HX2.out 0).trans (show _ = some (.slice A l.length c) from rfl)
    have hx1 := (blk_cell HX2.out 1).trans (show _ = some (.slice B m.length d) from rfl)
    clear hO hE
    go_wp2_with fail
    refine (new_any _ l m w2 (HH.out.below HB2.out) HO.out HE.out).mono ?_
    rintro e w3 ⟨hb3, ⟨-, rfl⟩ | ⟨hq, b, c0, rfl, hN⟩⟩
    · have HB3 := aside (below_next HB2.out hb3)
      clear hb3
      go_wp2_with fail
      go_ret
      exact ⟨rfl, HB3.out⟩
    obtain ⟨hln, hgood⟩ := checkP_good hq
    have HG := aside hgood
    obtain ⟨path, hP, hPN⟩ := TInv.build l hgood
    have HN := aside (show 1 ≤ (buildT l).N ∧ (buildT l).N ≤ 1 + sizes l from ⟨hP.1.2.1, hPN⟩)
    have HB3 := aside (below_next HB2.out hb3)
    have HX3 := aside ((hb3.block bx (blk_lt HX2.out)).trans HX2.out)
    have HNS := aside hN
    have hbb := hN.bge
    have hbx3 := blk_lt HX2.out
    have hwb : w.heap.size ≤ b := Nat.le_trans HB2.out.size hbb
    have HDG := aside (valuesS_digs hgood s)
    clear hgood hP hPN hb3 hN lx hx0 hx1 hq
    go_wp2_with fail
    refine (values_any w3 _ _ b l s HNS.out.is HG.out hln (by omega)).mono ?_
    rintro e w4 ⟨v4, Y4, rfl, hT4, hY4, hK4, hR4⟩
    obtain ⟨A4, c4, hv4, -, hC4⟩ := Kd.R_reads hR4
    have HB4 := aside (Below.trans HB3.out (Keep.below hK4 HB3.out.size (fun k e => by rw [e]; exact hwb)))
    have HX4 := aside (hK4.blk HX3.out (fun e => by omega))
    have HT4 := aside hT4
    have HY4 := aside (show ∀ k, Y4 k → w.heap.size ≤ k from fun k hk => by
      rcases hY4 k hk with e | e
      · rw [e]; exact hwb
      · have := HB3.out.size; omega)
    clear hT4 hK4 hY4
    have hlen := valuesS_length l s
    cases hq : plainB s
    all_goals
      rw [hq] at hlen
      have HQ := aside hq
      clear hq
    · have hlen : (valuesS l s).length = 0 := hlen
      rw [hlen] at hC4 hv4
      subst hv4
      have HC4 := aside hC4
      clear hC4 hlen hR4
      have hx0 := (blk_cell HX4.out 0).trans (show _ = some (.slice A l.length c) from rfl)
      go_wp2_with fail
      go_loopg [9, 10] l.length (fun gg s9 s10 wr => ∃ i : Nat, i ≤ l.length ∧ l.length - i ≤ gg ∧ s9 = .int .i64 ((1 + sizes (l.take i) : Nat) : Int) ∧ s10 = .int .i64 i ∧ w4 = wr)
      case atStart => exact ⟨0, Nat.zero_le _, by omega, rfl, rfl, rfl⟩
      case round =>
        obtain ⟨i, hi, hg, rfl, rfl, rfl⟩ := hrel
        by_cases hlt : i < l.length
        · have hltz : (i : Int) < (l.length : Int) := by omega
          obtain ⟨ad, A1, c1, hA, hc0, -⟩ := Pr.at_T40 (Kd.C_below HC.out HB4.out) (i : Int) (by omega) (by omega)
          rw [Int.toNat_natCast] at hc0
          subst hA
          obtain ⟨x, hx⟩ : ∃ x, x = Pr.rd_T40 l i := ⟨_, rfl⟩
          rw [← hx] at hc0
          have hxl : l.take (i + 1) = l.take i ++ [x] := by
            rw [List.take_succ_eq_append_getElem hlt, hx]
            show _ = l.take i ++ [l.getD (Int.toNat (i : Int)) _]
            rw [Int.toNat_natCast, List.getD_eq_getElem?_getD, List.getElem?_eq_getElem hlt]; rfl
          have hsx : sizes (l.take (i + 1)) = sizes (l.take i) + x.f0.size := by rw [hxl, sizes_snoc]
          have hbig := sizes_le (l.take (i + 1)) (fun y hy => HG.out y (List.mem_of_mem_take hy))
          rw [List.length_take] at hbig
          have HSX := aside (show ((1 + sizes (l.take (i + 1)) : Nat) : Int) = ((1 + sizes (l.take i) : Nat) : Int) + x.f0.size from by rw [hsx]; omega)
          have hsm : ((1 + sizes (l.take i) : Nat) : Int) + x.f0.size ≤ 100000 := by omega
          have hn0 : (0 : Int) ≤ ((1 + sizes (l.take i) : Nat) : Int) := by omega
          clear hsx hbig hx hxl
          generalize ((1 + sizes (l.take i) : Nat) : Int) = n at HSX hsm hn0 ⊢
          go_wp2_with fail
          go_roundg (l.length - (i + 1))
          case measure => omega
          case rel => exact ⟨i + 1, by omega, by omega, by first | (rw [HSX.out]; done) | (rw [HSX.out]; go_num), by go_num, rfl⟩
        · have hltz : ¬ (i : Int) < (l.length : Int) := by omega
          obtain rfl : i = l.length := by omega
          have hall : (buildT l).N ≤ ((1 + sizes (l.take l.length) : Nat) : Int) := by rw [List.take_length]; have := HN.out.2; omega
          have HALL := aside hall
          clear hall
          generalize ((1 + sizes (l.take l.length) : Nat) : Int) = n at HALL ⊢
          go_wp2_with fail
          go_loopg [11] (0) (fun gg s11 wr => ∃ i : Nat, i ≤ 0 ∧ 0 - i ≤ gg ∧ s11 = .int .i64 i ∧ w4 = wr)
          case atStart => exact ⟨0, Nat.zero_le _, by omega, rfl, rfl⟩
          case round =>
            obtain ⟨i, hi, hg, rfl, rfl⟩ := hrel
            by_cases hit : i < 0
            · exact absurd hit (Nat.not_lt_zero _)
            · have hitz : ¬ (i : Int) < ((0 : Nat) : Int) := by omega
              obtain rfl : i = 0 := by omega
              have hn1 := HN.out.1
              have hall := HALL.out
              have HM1 := aside (fun w' (hw : Below w4.heap.size w4 w') => nodes_any w' _ _ b l (HT4.out.below hw) HG.out hln)
              have hq : plainB s = false := HQ.out
              have HWD := aside (word_any s w4)
              rw [hq] at HWD
              clear hq
              go_wp2_with fail
              refine HWD.out.mono ?_
              rintro e w5 ⟨rfl, hb5⟩
              have HB5 := aside hb5
              clear hb5
              go_wp2_with fail
              refine (HM1.out w5 HB5.out).mono ?_
              rintro e w6 ⟨rfl, hT6, hK6⟩
              have HT6 := aside hT6
              have HB6 := aside (Below.trans (below_next HB4.out HB5.out) (Keep.below hK6 (below_next HB4.out HB5.out).size HY4.out))
              clear hT6 hK6
              go_wp2_with fail
              refine (nodes_any w6 _ _ b l HT6.out HG.out hln).mono ?_
              rintro e w7 ⟨rfl, -, hK7⟩
              have HB7 := aside (Below.trans HB6.out (Keep.below hK7 HB6.out.size (fun k hk => by
                rcases hk with hk | hk
                · exact HY4.out k hk
                · have := (below_next HB4.out HB5.out).size; omega)))
              clear hK7
              go_wp2_with fail
              go_ret
              exact ⟨rfl, HB7.out⟩

    · have hlen : (valuesS l s).length = s.size + 1 := hlen
      rw [hlen] at hC4 hv4
      subst hv4
      have HC4 := aside hC4
      clear hC4 hlen hR4
      have hx0 := (blk_cell HX4.out 0).trans (show _ = some (.slice A l.length c) from rfl)
      go_wp2_with fail
      go_loopg [9, 10] l.length (fun gg s9 s10 wr => ∃ i : Nat, i ≤ l.length ∧ l.length - i ≤ gg ∧ s9 = .int .i64 ((1 + sizes (l.take i) : Nat) : Int) ∧ s10 = .int .i64 i ∧ w4 = wr)
      case atStart => exact ⟨0, Nat.zero_le _, by omega, rfl, rfl, rfl⟩
      case round =>
        obtain ⟨i, hi, hg, rfl, rfl, rfl⟩ := hrel
        by_cases hlt : i < l.length
        · have hltz : (i : Int) < (l.length : Int) := by omega
          obtain ⟨ad, A1, c1, hA, hc0, -⟩ := Pr.at_T40 (Kd.C_below HC.out HB4.out) (i : Int) (by omega) (by omega)
          rw [Int.toNat_natCast] at hc0
          subst hA
          obtain ⟨x, hx⟩ : ∃ x, x = Pr.rd_T40 l i := ⟨_, rfl⟩
          rw [← hx] at hc0
          have hxl : l.take (i + 1) = l.take i ++ [x] := by
            rw [List.take_succ_eq_append_getElem hlt, hx]
            show _ = l.take i ++ [l.getD (Int.toNat (i : Int)) _]
            rw [Int.toNat_natCast, List.getD_eq_getElem?_getD, List.getElem?_eq_getElem hlt]; rfl
          have hsx : sizes (l.take (i + 1)) = sizes (l.take i) + x.f0.size := by rw [hxl, sizes_snoc]
          have hbig := sizes_le (l.take (i + 1)) (fun y hy => HG.out y (List.mem_of_mem_take hy))
          rw [List.length_take] at hbig
          have HSX := aside (show ((1 + sizes (l.take (i + 1)) : Nat) : Int) = ((1 + sizes (l.take i) : Nat) : Int) + x.f0.size from by rw [hsx]; omega)
          have hsm : ((1 + sizes (l.take i) : Nat) : Int) + x.f0.size ≤ 100000 := by omega
          have hn0 : (0 : Int) ≤ ((1 + sizes (l.take i) : Nat) : Int) := by omega
          clear hsx hbig hx hxl
          generalize ((1 + sizes (l.take i) : Nat) : Int) = n at HSX hsm hn0 ⊢
          go_wp2_with fail
          go_roundg (l.length - (i + 1))
          case measure => omega
          case rel => exact ⟨i + 1, by omega, by omega, by first | (rw [HSX.out]; done) | (rw [HSX.out]; go_num), by go_num, rfl⟩
        · have hltz : ¬ (i : Int) < (l.length : Int) := by omega
          obtain rfl : i = l.length := by omega
          have hall : (buildT l).N ≤ ((1 + sizes (l.take l.length) : Nat) : Int) := by rw [List.take_length]; have := HN.out.2; omega
          have HALL := aside hall
          clear hall
          generalize ((1 + sizes (l.take l.length) : Nat) : Int) = n at HALL ⊢
          go_wp2_with fail
          go_loopg [11] (s.size + 1) (fun gg s11 wr => ∃ i : Nat, i ≤ s.size + 1 ∧ s.size + 1 - i ≤ gg ∧ s11 = .int .i64 i ∧ w4 = wr)
          case atStart => exact ⟨0, Nat.zero_le _, by omega, rfl, rfl⟩
          case round =>
            obtain ⟨i, hi, hg, rfl, rfl⟩ := hrel
            by_cases hit : i < s.size + 1
            · skip
              have hitz : (i : Int) < ((s.size + 1 : Nat) : Int) := by omega
              obtain ⟨ad, hA, hF⟩ := int_cells' HC4.out (by omega)
              subst hA
              have hci := hF i hit
              obtain ⟨d1, d2⟩ := digs_getD HDG.out i
              clear hF
              generalize (valuesS l s).getD i 0 = x at hci d1 d2
              go_wp2_with fail
              go_roundg (s.size + 1 - (i + 1))
              case measure => omega
              case rel => exact ⟨i + 1, by omega, by omega, by go_num, rfl⟩
            · have hitz : ¬ (i : Int) < ((s.size + 1 : Nat) : Int) := by omega
              obtain rfl : i = s.size + 1 := by omega
              have hn1 := HN.out.1
              have hall := HALL.out
              have HM1 := aside (fun w' (hw : Below w4.heap.size w4 w') => nodes_any w' _ _ b l (HT4.out.below hw) HG.out hln)
              have hq : plainB s = true := HQ.out
              have HWD := aside (word_any s w4)
              rw [hq] at HWD
              clear hq
              go_wp2_with fail
              refine HWD.out.mono ?_
              rintro e w5 ⟨rfl, hb5⟩
              have HB5 := aside hb5
              clear hb5
              go_wp2_with fail
              refine (HM1.out w5 HB5.out).mono ?_
              rintro e w6 ⟨rfl, hT6, hK6⟩
              have HT6 := aside hT6
              have HB6 := aside (Below.trans (below_next HB4.out HB5.out) (Keep.below hK6 (below_next HB4.out HB5.out).size HY4.out))
              clear hT6 hK6
              go_wp2_with fail
              refine (nodes_any w6 _ _ b l HT6.out HG.out hln).mono ?_
              rintro e w7 ⟨rfl, -, hK7⟩
              have HB7 := aside (Below.trans HB6.out (Keep.below hK7 HB6.out.size (fun k hk => by
                rcases hk with hk | hk
                · exact HY4.out k hk
                · have := (below_next HB4.out HB5.out).size; omega)))
              clear hK7
              go_wp2_with fail
              go_ret
              exact ⟨rfl, HB7.out⟩

end Go.Proofs.Ytcignolfkocjeaa
