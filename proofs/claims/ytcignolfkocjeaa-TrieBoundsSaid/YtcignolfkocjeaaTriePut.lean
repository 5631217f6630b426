/- trie's put, walked: a pattern is put in. -/
import Derived.Test.YtcignolfkocjeaaTrieRow
set_option linter.unusedVariables false
set_option linter.unusedSimpArgs false
namespace Go.Proofs.Ytcignolfkocjeaa
open Go.RowKit Go.Proofs.YtcignolfkocjeaaW.PrintWords

attribute [local go_sem] max2_ints max_pair

set_option maxHeartbeats 8000000 in
set_option maxRecDepth 100000 in
theorem put_any (W : World) (Y : Nat → Prop) (b rs rv : Nat) (c0 c1 c2 c3 : Value) (T : TrieS) (s : ByteArray) (v : List Int) (A : Option Addr) (c : Nat) (h : TrieM W Y b rs rv c0 c1 c2 c3 T) (hY : ∀ k, Y k → k < W.heap.size)
    (hC : (Kd.int .i64).C W A v.length v) (hfar : ∀ ad, A = some ad → 0 < v.length → ¬ Y ad.block) (hs : s.size ≤ 100) (hv0 : 0 < v.length) (hv : v.length ≤ 100) (hok : StepsOk T.S T.N) (hN : 1 ≤ T.N ∧ T.N ≤ 1000000)
    (hold : ∀ old, lkV T.V (stepsIn (bytesOf s) T.S T.N 0).2.2 = some old → old.length = v.length) :
    Calls Try.prog 55 #[.pointer (some ⟨b, 0, none⟩), .agg #[.string s, .slice A v.length c]] W fun e w' => e = .returned (.tuple #[]) ∧
      TrieM w' (fun k => Y k ∨ (W.heap.size ≤ k ∧ k < w'.heap.size)) b rs rv c0 c1 c2 c3 (putT T (bytesOf s) v) ∧ Keep Y W w' := by
  have hbl := bytesOf_length s
  have kb := fun W => print_bytes (P := Try.prog) 9 54 5 Try.underlying9 Try.underlying54 Try.underlying5 s W
  have hnot : ∀ (x : Bool) (w : World), (Op.unary .not (.bool x)).run Try.prog w = .ok (.bool (!x)) w := fun _ _ => rfl
  have HH := aside h
  have HOLD := aside hold
  have HOK := aside hok
  have HC := aside hC
  have HF := aside hfar
  have HY := aside hY
  have HBL := aside hbl
  clear h hold hok hC hfar hY hbl
  go_enter Try.func55, Try.ntmps55
  go_wp2_with fail
  obtain ⟨wp, hwp⟩ : ∃ wp, wp = W.alloc (.cells #[.string s, .slice A v.length c] 40) := ⟨_, rfl⟩
  have hbp : Below W.heap.size W wp := by rw [hwp]; exact below_alloc (Below.refl _ _) _
  have hpx : wp.heap[W.heap.size]? = some (.cells #[.string s, .slice A v.length c] 40 (0, 0)) := by rw [hwp]; exact blk_new _ _
  have hps : wp.heap.size = W.heap.size + 1 := by rw [hwp]; simp
  have hst : PutSt W (Lib.bytesWorld wp 5 s) Y b rs rv W.heap.size wp.heap.size c0 c1 c2 c3 T.V s (.slice A v.length c) T.S T.N := by
    have hbb : Below W.heap.size W (Lib.bytesWorld wp 5 s) := bytes_below hbp (by omega) _ _
    have hk : ∀ k, Y k → (Lib.bytesWorld wp 5 s).heap[k]? = W.heap[k]? := fun k hk => hbb.block k (HY.out k hk)
    have h := HH.out
    refine ⟨⟨(hk _ h.xb).trans h.hb, h.hs.keep (hk _ h.xs), h.hv.keep (fun _ h => h) (fun k hk' => ?_), h.xb, h.xs, h.xv, h.ne⟩, Keep.of_below hbb, (Lib.bytesWorld_at_old _ _ _ _ (by omega)).trans hpx, ?_, HOK.out⟩
    · rcases hk' with rfl | ⟨hk', _⟩
      · exact hk _ h.xv
      · exact hk _ hk'
    · have := Kd.C_of_reads (d := (0 : Int)) (enc := Value.int .u8) (h1 := fun _ => rfl) (bytes_reads wp 5 s (by omega))
      rw [← HBL.out] at this
      exact this
  have hsz : (Lib.bytesWorld wp 5 s).heap.size = W.heap.size + 2 := by rw [Lib.bytesWorld_size, hps]
  rw [← hwp]
  generalize grownCap wp s.size 0 5 = gc
  generalize Lib.bytesWorld wp 5 s = w0 at hst hsz ⊢
  rw [hps] at hst
  obtain ⟨nb, hnb⟩ : ∃ nb, nb = W.heap.size + 1 := ⟨_, rfl⟩
  obtain ⟨bx, hbx⟩ : ∃ bx, bx = W.heap.size := ⟨_, rfl⟩
  rw [← hnb, ← hbx] at hst ⊢
  have hbn : bx < nb := by omega
  have HBX := aside hbx
  have HST := aside hst
  clear hwp hbp hpx hps hnb hbx hst hsz
  go_loopg [4, 16] s.size (fun gg s4 s16 wr => ∃ (kk : Nat) (S : List ((Int × Int) × Int)) (N at_ : Int), kk ≤ s.size ∧ s.size - kk ≤ gg ∧ s16 = .int .i64 kk ∧ s4 = .int .i64 at_ ∧ 0 ≤ at_ ∧ at_ < N ∧ N ≤ 1000000 + kk ∧ Aside (stepsIn (bytesOf s) T.S T.N 0 = stepsIn ((bytesOf s).drop kk) S N at_) ∧ Aside (PutSt W wr Y b rs rv bx nb c0 c1 c2 c3 T.V s (.slice A v.length c) S N))
  case atStart => exact ⟨0, T.S, T.N, 0, Nat.zero_le _, by omega, rfl, rfl, by omega, by omega, by omega, rfl, HST⟩
  case round =>
    obtain ⟨kk, S, N, at_, hkk, hg, rfl, rfl, ha0, haN, hNb, HS, HP⟩ := hrel
    by_cases hlt : kk < s.size
    · have hltz : (kk : Int) < (s.size : Int) := by omega
      have hrange := byte_range s kk
      have hdrop : (bytesOf s).drop kk = (bytesOf s).getD kk 0 :: (bytesOf s).drop (kk + 1) := by
        have hl : kk < (bytesOf s).length := by rw [HBL.out]; exact hlt
        rw [List.drop_eq_getElem_cons hl, List.getD_eq_getElem?_getD, List.getElem?_eq_getElem hl]; rfl
      obtain ⟨ad, hA, hF⟩ := int_cells' HP.out.hc (by rw [HBL.out]; omega)
      cases hA
      have hcb := hF kk (by rw [HBL.out]; exact hlt)
      rw [add_plain] at hcb
      have hm3 := (blk_cell HP.out.tm.hb 5).trans (show _ = some (.map (some rs)) from rfl)
      have hst := HS.out
      rw [hdrop] at hst
      clear hF hdrop
      generalize (bytesOf s).getD kk 0 = x at hcb hst hrange
      cases hl : lkS S at_ x with
      | some n =>
        have hlk := look_step_yes HP.out.tm.hs hl
        have hn := lkS_node HP.out.ok hl
        have HE := aside (show stepsIn (bytesOf s) T.S T.N 0 = stepsIn ((bytesOf s).drop (kk + 1)) S N n by rw [hst]; simp only [stepsIn, hl])
        clear hst hl HS
        go_wp2_with fail
        go_roundg (s.size - (kk + 1))
        case measure => omega
        case rel => exact ⟨kk + 1, S, N, n, by omega, by omega, by go_num, rfl, hn.1, hn.2, by omega, HE, HP⟩
      | none =>
        have hlk := look_step_no HP.out.tm.hs (a := at_) (b := x) ⟨by omega, by omega⟩ hrange hl
        have HE := aside (show stepsIn (bytesOf s) T.S T.N 0 = stepsIn ((bytesOf s).drop (kk + 1)) (S ++ [((at_, x), N)]) (N + 1) N by rw [hst]; simp only [stepsIn, hl])
        have hn4 := (blk_cell HP.out.tm.hb 4).trans (show _ = some (.int .i64 N) from rfl)
        have hz4 := blk_frozen HP.out.tm.hb 4
        have hwr : IntKind.i64.wrap (N + 1) = N + 1 := by rw [IntKind.wrap_i64]; omega
        have HA := aside (iadd_any b 4 N 1 wr hn4 hz4 hwr)
        have HM := aside (HP.out.tm.hs.keep (W' := wr.setCell ⟨b, 4, none⟩ (.int .i64 (N + 1))) (Below.heap_setCell _ _ _ _ HP.out.tm.rs_ne))
        have HK := aside (key_step (wf64 ha0 (by omega)) (wf8 hrange.1 hrange.2))
        have HL := aside (lkS_none hl)
        clear hst hl HS hn4 hz4 hwr
        go_wp2_with (first
          | (go_at_call 70; refine HA.out.mono ?_; rintro e w' ⟨rfl, hw⟩; obtain rfl := hw.symm)
          | (at_mapUpdate; refine wpList_update_no rfl (.tmp 41) (.tmp 44) (.tmp 45) rfl law_step Try.underlying77 rfl HM.out (keyS at_ x) (.int .i64 N) rfl rfl HK.out HL.out ?_; intro w2 hm2 hg2))
        go_roundg (s.size - (kk + 1))
        case measure => omega
        case rel => exact ⟨kk + 1, S ++ [((at_, x), N)], N + 1, N, by omega, by omega, by go_num, rfl, by omega, by omega, by omega, HE, HP.out.step (fun k hk => by have := HY.out k hk; have := HBX.out; omega) hbn (by omega) hm2 hg2 (by intro e; have := HBL.out; rw [e] at this; simp at this; omega)⟩
    · obtain rfl : kk = s.size := by omega
      have hltz : ¬ (s.size : Int) < (s.size : Int) := by omega
      have hse : stepsIn (bytesOf s) T.S T.N 0 = (S, N, at_) := by
        rw [HS.out, List.drop_of_length_le (by rw [HBL.out]; exact Nat.le_refl _)]; rfl
      have hpt : putT T (bytesOf s) v = ⟨S, N, putV T.V at_ v⟩ := by unfold putT; rw [hse]
      have hold := HOLD.out
      rw [hse] at hold
      simp only at hold
      have HPT := aside hpt
      have hYb : ∀ k, Y k → k < bx := fun k hk => by have := HY.out k hk; have := HBX.out; omega
      have hm6 := (blk_cell HP.out.tm.hb 6).trans (show _ = some (.map (some rv)) from rfl)
      have hx1 := (blk_cell HP.out.hx 1).trans (show _ = some (.slice A v.length c) from rfl)
      have hfarC : (Kd.int .i64).C wr A v.length v := c_far HC.out HP.out.kp HF.out
      have qT : ∀ (w : World) (a : Option Addr) (n c n' c' : Nat), (binOp .eql 32 (.slice a n c) (.slice none n' c')).run Try.prog w = .ok (.bool a.isNone) w := fun w a n c n' c' => Lib.run_eql_slice_nil w _ _ a n c n' c' Try.underlying32
      have HFC := aside hfarC
      have HYB := aside hYb
      clear hfarC hYb hpt hse HS HOLD HST
      cases hl : lkV T.V at_ with
      | none =>
        have hlk := look_val_no HP.out.tm.hv (a := at_) ⟨by omega, by omega⟩ hl
        obtain ⟨M, hMV, hMm, hMr, hMp⟩ := HP.out.tm.hv
        have hvb := HP.out.tm.rv_ne
        have hbxY : ¬ Y bx := fun h => by have := HYB.out bx h; omega
        have hvx : rv ≠ bx := fun e => hbxY (e ▸ HP.out.tm.xv)
        have hAv : ∀ ad, A = some ad → 0 < v.length → ad.block ≠ rv := fun ad e hp e2 => HF.out ad e hp (e2 ▸ HP.out.tm.xv)
        have HU := aside (fun (w1 : World) (v1 : Value) (hb : Below wr.heap.size wr w1) => update_no law_int Try.underlying78 (hMm.keep (W' := w1) (hb.block rv hMm.lt)) (key_int (wf64 ha0 (by omega))) (vals_none hMV hl) v1)
        have SNb := aside (show ∀ (a b_ : World) (B : Nat), (fun w' : World => w'.cell? ⟨b, 6, none⟩ = some (.map (some rv)) ∧ w'.cell? ⟨bx, 1, none⟩ = some (.slice A v.length c) ∧ (Kd.int .i64).C w' A v.length v) a → Below B a b_ → B = a.heap.size → (fun w' : World => w'.cell? ⟨b, 6, none⟩ = some (.map (some rv)) ∧ w'.cell? ⟨bx, 1, none⟩ = some (.slice A v.length c) ∧ (Kd.int .i64).C w' A v.length v) b_ from fun a b_ B hS hb hB => by subst hB; exact ⟨pw_cell_below hb hS.1, pw_cell_below hb hS.2.1, Kd.C_below hS.2.2 hb⟩)
        have SNu := aside (show ∀ (a b_ : World), (fun w' : World => w'.cell? ⟨b, 6, none⟩ = some (.map (some rv)) ∧ w'.cell? ⟨bx, 1, none⟩ = some (.slice A v.length c) ∧ (Kd.int .i64).C w' A v.length v) a → a.grownBy b_ (some rv) → (fun w' : World => w'.cell? ⟨b, 6, none⟩ = some (.map (some rv)) ∧ w'.cell? ⟨bx, 1, none⟩ = some (.slice A v.length c) ∧ (Kd.int .i64).C w' A v.length v) b_ from fun a b_ hS hg => ⟨grown_cell hg hS.1 (by simpa using hvb.symm), grown_cell hg hS.2.1 (by simpa using hvx.symm), c_far hS.2.2 (Keep.of_grown (X := fun k => k = rv) hg (fun k e => by cases e; rfl)) (fun ad e hp => hAv ad e hp)⟩)
        have S0 := aside (SNb.out wr wr.drew wr.heap.size ⟨hm6, hx1, HFC.out⟩ (below_drew (Below.refl _ _)) rfl)
        have hMr0 := aside hMr
        have hMp0 := aside hMp
        clear hMm hMr hMp hAv
        go_wp2_with fail
        clear hm6 hx1
        go_region_held3 (fun w' : World => w'.cell? ⟨b, 6, none⟩ = some (.map (some rv)) ∧ w'.cell? ⟨bx, 1, none⟩ = some (.slice A v.length c) ∧ (Kd.int .i64).C w' A v.length v) (first | exact S0.out | exact SNb.out _ _ _ (by assumption) hb1 rfl | exact SNu.out _ _ (by assumption) hg2)
          (first | (go_at_call 31; refine (iclone_any A c v _ ?hC (by omega)).mono ?_; (case hC => (apply And.right; apply And.right; assumption)); (first | rintro e w1 ⟨v1, rfl, hR1, hb1⟩ | rintro e w1 v1 rfl hR1 hb1); obtain ⟨W2, hrun, hm2, hg2⟩ := HU.out w1 v1 (below_next (below_drew (Below.refl wr.heap.size wr)) hb1)))
        go_wp2_with fail
        refine bodyPost_ret (results_none rfl _ _ _) rfl ?_
        have hw1 : Below wr.heap.size wr w1 := below_next (below_drew (Below.refl wr.heap.size wr)) hb1
        rw [HPT.out]
        exact ⟨rfl, put_new HP.out (by rw [← HBX.out]; exact HYB.out) hv0 hw1 hR1 hMV hm2 hg2 hMr0.out hMp0.out hl rfl⟩
      | some old =>
        have hlen := hold old hl
        obtain ⟨M, hMV, hMm, hMr, hMp, m, hmM, hmn, hmx, hlk⟩ := look_val_yes HP.out.tm.hv hl
        subst hmx
        have hb0 := (hMr m hmM).1.2
        rw [hlen] at hlk
        have HR0 := aside (show (Kd.int .i64).R 3 wr 0 (fun j => j = m.g) (.slice (some ⟨m.g, 0, none⟩) v.length m.cap) (mixK m.xs v 0) from by rw [mixK_zero]; rw [← hlen]; exact hb0)
        have HMm := aside hMm
        have HMr := aside hMr
        have HMp := aside hMp
        have HMV := aside hMV
        have HLEN := aside hlen
        have HL := aside hl
        have HMN := aside hmn
        have hAg : ∀ ad, A = some ad → 0 < v.length → ad.block ≠ m.g := fun ad e hp e2 => HF.out ad e hp (e2 ▸ (hMr m hmM).2)
        have HAG := aside hAg
        clear hAg hb0 hMm hMr hMp hMV hlen hl hold hmn
        go_wp2_with fail
        go_loopg [67] v.length (fun gg s67 wq => ∃ k : Nat, k ≤ v.length ∧ v.length - k ≤ gg ∧ s67 = .int .i64 k ∧ Aside (Keep (fun j => j = m.g) wr wq) ∧ Aside ((Kd.int .i64).R 3 wq 0 (fun j => j = m.g) (.slice (some ⟨m.g, 0, none⟩) v.length m.cap) (mixK m.xs v k)))
        case atStart => exact ⟨0, Nat.zero_le _, by omega, rfl, Keep.refl _ _, HR0⟩
        case round =>
          obtain ⟨k, hk, hg, rfl, KQ, RQ⟩ := hrel
          by_cases hlt : k < v.length
          · have hltz : (k : Int) < (v.length : Int) := by omega
            obtain ⟨ad, hA, hF⟩ := int_cells' (c_far HFC.out KQ.out HAG.out) (by omega)
            have hcv := hF k hlt
            subst hA
            obtain ⟨hco, hfo⟩ := Kd.R_celln (0 : Int) RQ.out k (by omega) (by omega)
            have hset := Kd.R_putg RQ.out k (max ((mixK m.xs v k).getD k 0) (v.getD k 0))
            rw [Int.toNat_natCast] at hco hfo hset
            rw [mixK_step _ _ _ (by rw [HLEN.out]; exact hlt) hlt] at hset
            have HSET := aside hset
            have hco' : wr.cell? ⟨m.g, k, none⟩ = some (.int .i64 ((mixK m.xs v k).getD k 0)) := hco
            clear hF hset hco
            generalize (mixK m.xs v k).getD k 0 = o at hco' HSET
            generalize v.getD k 0 = p at hcv HSET
            go_wp2_with fail
            go_roundg (v.length - (k + 1))
            case measure => omega
            case rel => exact ⟨k + 1, by omega, by omega, by go_num, KQ.out.trans (Keep.of_grown HSET.out.2 (fun j e => by cases e; rfl)) (fun _ _ h => h), HSET.out.1⟩
          · have hltz : ¬ (k : Int) < (v.length : Int) := by omega
            obtain rfl : k = v.length := by omega
            have hend := RQ.out
            rw [← HLEN.out, mixK_all _ _ HLEN.out, HLEN.out] at hend
            have HEND := aside hend
            clear hend
            go_wp2_with fail
            go_end0
            rw [HPT.out]
            exact ⟨rfl, put_old HP.out KQ.out HEND.out HLEN.out HMV.out HMm.out HMr.out HMp.out hmM HMN.out HL.out⟩
end Go.Proofs.Ytcignolfkocjeaa
