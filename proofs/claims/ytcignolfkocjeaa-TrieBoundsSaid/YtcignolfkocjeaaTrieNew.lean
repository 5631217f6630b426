/- trie.New, walked: a trie of patterns, not made yet. -/
import Derived.Test.YtcignolfkocjeaaTrieMade2
import Derived.Deep.AppendLies
import Derived.Deep.RegionLaw
set_option linter.unusedVariables false
set_option linter.unusedSimpArgs false
namespace Go.Proofs.Ytcignolfkocjeaa
open Go.RowKit Go.Proofs.YtcignolfkocjeaaW.PrintWords

theorem info_pat : (Try.prog.info? 40).map (fun i => (i.zero, i.size, i.bytes)) = some (some (.agg #[.string ⟨#[]⟩, .slice none 0 0]), 2, 40) := by kernel_rfl

/-- Block b is a trie of these patterns, not made yet; all its own. -/
structure NewSt (W wr : World) (b : Nat) (L : List PatR) (c0 : Value) : Prop where
  hb : wr.heap[b]? = some (.cells #[c0, .int .u32 0, .int .i32 0, .int .u32 0, .int .i64 0, .map none, .map none] 80 (0, 0))
  row : kPat.R 40 wr W.heap.size (fun k => k ≠ b) c0 L
  blw : Below W.heap.size W wr
  bge : W.heap.size ≤ b
theorem NewSt.below {W wr w' : World} {b : Nat} {L : List PatR} {c0 : Value} (h : NewSt W wr b L c0) (hb : Below wr.heap.size wr w') : NewSt W w' b L c0 :=
  ⟨(hb.block b (blk_lt h.hb)).trans h.hb, Kd.R_below h.row hb, below_next h.blw hb, h.bge⟩
theorem NewSt.next {W w2 : World} {b : Nat} {L : List PatR} {c0 v2 : Value} (hb : w2.heap[b]? = some (.cells #[c0, .int .u32 0, .int .i32 0, .int .u32 0, .int .i64 0, .map none, .map none] 80 (0, 0))) (hR : kPat.R 40 w2 W.heap.size (fun k => k ≠ b) v2 L) (hB : Below W.heap.size W w2) (hge : W.heap.size ≤ b) :
    NewSt W (w2.setCell ⟨b, 0, none⟩ v2) b L v2 :=
  ⟨blk_set hb 0 _, Kd.R_far (p := ⟨b, 0, none⟩) hR (fun _ h => h) _, (Below.trans hB (Keep.below (X := fun k => k = b) (Keep.set (X := fun k => k = b) (p := ⟨b, 0, none⟩) rfl _) hB.size (fun k e => by rw [e]; exact hge))), hge⟩
theorem NewSt.is {W wr : World} {b : Nat} {L : List PatR} {c0 : Value} (h : NewSt W wr b L c0) : TrieIs wr (fun k => k = b) (fun k => k ≠ b ∧ W.heap.size ≤ k ∧ k < wr.heap.size) b L :=
  ⟨rfl, fun k e => by rw [e]; exact blk_lt h.hb, fun k hk => hk.2.2, fun k hk e => hk.1 e, c0, Kd.R_mono (Kd.R_lower (Kd.R_bound h.row) (Nat.zero_le _)) (fun k hk => ⟨hk.1, hk.2.1, hk.2.2.1⟩), .inl h.hb⟩

theorem dotted_len (l : List Int) : l.length ≤ (dotted l).length + 1 := by
  cases l with
  | nil => simp
  | cons a l =>
    show (a :: l).length ≤ (if a = 46 then l else a :: l).length + 1
    split <;> simp
theorem coreL_len (l : List Int) : l.length ≤ (coreL l).length + 2 := by
  unfold coreL
  rw [List.length_reverse]
  have h1 := dotted_len l
  have h2 := dotted_len (dotted l).reverse
  rw [List.length_reverse] at h2
  omega
theorem patB_good {x : PatR} (h : patB x = true) : PatGood x ∧ 1 ≤ x.f0.size := by
  unfold patB at h
  simp only [Bool.and_eq_true, decide_eq_true_eq] at h
  obtain ⟨⟨h1, h2⟩, h3⟩ := h
  unfold plainB at h1
  simp only [Bool.and_eq_true, decide_eq_true_eq] at h1
  have hc := coreL_len (bytesOf x.f0)
  rw [← coreS_bytes, bytesOf_length, bytesOf_length] at hc
  have hd : (coreL (bytesOf x.f0)).length ≤ (bytesOf x.f0).length := by
    unfold coreL
    rw [List.length_reverse]
    exact Nat.le_trans (dotted_le _) (by rw [List.length_reverse]; exact dotted_le _)
  rw [← coreS_bytes, bytesOf_length, bytesOf_length] at hd
  refine ⟨⟨by omega, by omega, fun n hn => ?_⟩, by omega⟩
  unfold digsB at h3
  rw [Bool.not_eq_true', anyOf_false] at h3
  obtain ⟨j, hj, rfl⟩ := List.getElem_of_mem hn
  have h4 := h3 j (Nat.zero_le _) (by omega)
  rw [List.getD_eq_getElem?_getD, List.getElem?_eq_getElem hj] at h4
  simp only [Option.getD_some, Bool.not_eq_false', digB, Bool.and_eq_true, decide_eq_true_eq] at h4
  exact h4
theorem checkP_pat {l : List PatR} {m : List ExcR} (h : checkP l m = true) : l.length ≤ 300 ∧ ∀ x, x ∈ l → patB x = true := by
  unfold checkP at h
  simp only [Bool.and_eq_true, decide_eq_true_eq] at h
  refine ⟨by omega, fun x hx => ?_⟩
  have h3 := h.1.2
  unfold patsB at h3
  rw [Bool.not_eq_true', anyOf_false] at h3
  obtain ⟨j, hj, rfl⟩ := List.getElem_of_mem hx
  have h4 := h3 j (Nat.zero_le _) (by omega)
  rw [List.getD_eq_getElem?_getD, List.getElem?_eq_getElem hj] at h4
  simpa using h4
theorem checkP_good {l : List PatR} {m : List ExcR} (h : checkP l m = true) : l.length ≤ 300 ∧ ∀ x, x ∈ l → PatGood x :=
  ⟨(checkP_pat h).1, fun x hx => (patB_good ((checkP_pat h).2 x hx)).1⟩

set_option maxHeartbeats 8000000 in
set_option maxRecDepth 100000 in
theorem new_any (v : Value) (l : List PatR) (m : List ExcR) (W : World) (h : PatsOf W v l m) (hO : PatsOk l) (hE : ExcsOk m) :
    Calls Try.prog 16 #[v] W fun e w' => Below W.heap.size W w' ∧ ((checkP l m = false ∧ e = .returned (.tuple #[.pointer none, .int .i64 100])) ∨
      (checkP l m = true ∧ ∃ b c0, e = .returned (.tuple #[.pointer (some ⟨b, 0, none⟩), .int .i64 0]) ∧ NewSt W w' b l c0)) := by
  have HH := aside h
  have hA : ∀ o, Below W.heap.size W (W.alloc o) := fun o => below_alloc (Below.refl _ _) o
  have HC := aside (fun W' (hW : Below W.heap.size W W') => lcheck_any v l m W' (h.below hW) hO hE)
  obtain ⟨A, c, B, d, rfl, h2, h3, h4, h5⟩ := h
  have hm4 := h4.2.1
  have H4 := aside h4
  have HA := aside hA
  have hnot : ∀ (x : Bool) (w : World), (Op.unary .not (.bool x)).run Try.prog w = .ok (.bool (!x)) w := fun _ _ => rfl
  clear hO hE h4 h5 h3 hA
  go_enter Try.func16, Try.ntmps16
  cases hq : checkP l m with
  | false =>
    rw [hq] at HC
    go_wp2_with (go_at_call 30; refine (HC.out _ (below_alloc (Below.refl _ _) _)).mono ?_; rintro e w' ⟨rfl, hb'⟩)
    go_ret2
    exact ⟨below_next (HA.out _) hb', rfl⟩
  | true =>
    rw [hq] at HC
    have hpx : (W.alloc (.cells #[.slice A l.length c, .slice B m.length d] 25)).heap[W.heap.size]? = some (.cells #[.slice A l.length c, .slice B m.length d] 25 (0, 0)) := blk_new _ _
    have HPX := aside hpx
    clear hpx
    go_wp2_with (go_at_call 30; refine (HC.out _ (below_alloc (Below.refl _ _) _)).mono ?_; rintro e w' ⟨rfl, hb'⟩; have hlt0 : W.heap.size < w'.heap.size := (by have := hb'.size; rw [World.size_alloc] at this; omega); have hp0 := (blk_cell ((hb'.block W.heap.size (by rw [World.size_alloc]; omega)).trans HPX.out) 0).trans (show _ = some (.slice A l.length c) from rfl))
    have hz : NewSt W (w'.alloc (.cells #[.slice none 0 0, .int .u32 0, .int .i32 0, .int .u32 0, .int .i64 0, .map none, .map none] 80)) w'.heap.size (l.take 0) (.slice none 0 0) :=
      ⟨blk_new _ _, Kd.R_nil _ _ _ _ _, below_alloc (below_next (HA.out _) hb') _, by omega⟩
    have HZ := aside hz
    have hbge : W.heap.size ≤ w'.heap.size := by omega
    obtain ⟨b, hb⟩ : ∃ b, b = w'.heap.size := ⟨_, rfl⟩
    rw [← hb] at HZ hbge ⊢
    clear hz
    generalize w'.alloc (.cells #[.slice none 0 0, .int .u32 0, .int .i32 0, .int .u32 0, .int .i64 0, .map none, .map none] 80) = w0 at HZ ⊢
    clear hb hb' hp0 hlt0 HPX HC HH
    go_loopg [15] l.length (fun gg s15 wr => ∃ kk : Nat, kk ≤ l.length ∧ l.length - kk ≤ gg ∧ s15 = .int .i64 kk ∧ Aside (∃ c0, NewSt W wr b (l.take kk) c0))
    case atStart => exact ⟨0, Nat.zero_le _, by omega, rfl, ⟨_, HZ.out⟩⟩
    case round =>
      obtain ⟨kk, hkk, hg, rfl, HS⟩ := hrel
      by_cases hlt : kk < l.length
      · have hltz : (kk : Int) < (l.length : Int) := by omega
        obtain ⟨c0, hS⟩ := HS.out
        obtain ⟨A0, n0, hc0, hn0, -⟩ := Kd.R_reads hS.row
        subst hc0
        obtain ⟨el, hKe, hce⟩ := pick_cells zPat (Kd.C_below H4.out hS.blw)
        obtain ⟨ad, hA, hcf⟩ := hce (by omega)
        clear hce
        subst hA
        obtain ⟨x, hx⟩ : ∃ x, l.getD kk zPat = x := ⟨_, rfl⟩
        have hK := hKe kk hlt
        rw [hx] at hK
        obtain ⟨A1, c1, he, hlc1, hC1⟩ := Pr.k40_open hK
        have hcf := hcf kk hlt
        rw [he] at hcf
        have hca : wr.cell? (ad.add (kk * 2)) = some (.string x.f0) := hcf 0 _ rfl
        have hcb : wr.cell? ⟨(ad.add (kk * 2)).block, (ad.add (kk * 2)).off + 1, none⟩ = some (.slice A1 x.f1.length c1) := by rw [← add_field _ _ 1 (by omega)]; exact hcf 1 _ rfl
        have HX := aside hx
        have HS1 := aside hS
        have HC1 := aside hC1
        clear hS hn0 hKe hcf hx hK he hlc1 hC1 HS
        go_upto_region 7 with fail
        have hbA : Below wr.heap.size wr (wr.alloc (.cells #[.string x.f0, .slice A1 x.f1.length c1] 40)) := below_alloc (Below.refl _ _) _
        have hSq := HS1.out.below hbA
        have hCq := Kd.C_below HC1.out hbA
        have hxq : (wr.alloc (.cells #[.string x.f0, .slice A1 x.f1.length c1] 40)).heap[wr.heap.size]? = some (.cells #[.string x.f0, .slice A1 x.f1.length c1] 40 (0, 0)) := blk_new _ _
        have hszq : (wr.alloc (.cells #[.string x.f0, .slice A1 x.f1.length c1] 40)).heap.size = wr.heap.size + 1 := World.size_alloc _ _
        have hbwr := blk_lt HS1.out.hb
        have HSQ := aside hSq
        have HCQ := aside hCq
        have HXQ := aside hxq
        have HSZQ := aside hszq
        clear hSq hCq hxq hszq hbA
        obtain ⟨bx, hbx⟩ : ∃ bx, bx = wr.heap.size := ⟨_, rfl⟩
        rw [← hbx] at HXQ HSZQ ⊢
        generalize wr.alloc (.cells #[.string x.f0, .slice A1 x.f1.length c1] 40) = wq at HSQ HCQ HXQ HSZQ ⊢
        have hb_bx : b < bx := by omega
        have HBX := aside hbx
        clear hbx hbwr hca hcb
        have q0 := (blk_cell HSQ.out.hb 0).trans (show _ = some (.slice A0 (l.take kk).length n0) from rfl)
        have qz := blk_frozen HSQ.out.hb 0
        have x0 := (blk_cell HXQ.out 0).trans (show _ = some (.string x.f0) from rfl)
        have x1 := (blk_cell HXQ.out 1).trans (show _ = some (.slice A1 x.f1.length c1) from rfl)
        obtain ⟨hln, hgood⟩ := checkP_good hq
        have hl1 : x.f1.length ≤ 1000000 := (by
          have hxm : x ∈ l := by rw [← HX.out, List.getD_eq_getElem?_getD, List.getElem?_eq_getElem hlt]; exact List.getElem_mem _
          obtain ⟨g1, g2, -⟩ := hgood x hxm
          omega)
        clear hgood
        have hlk : (l.take kk).length = kk := by rw [List.length_take]; omega
        have HO0 := aside (show kPat.R 40 wq W.heap.size (fun k => k ≠ b) (.slice A0 kk n0) (l.take kk) from by have := HSQ.out.row; rw [hlk] at this; exact this)
        have HLT := aside (Kd.R_lt HO0.out)
        have HNE := aside (show some b ≠ (Value.slice A0 kk n0).ownBlock from Kd.R_away HO0.out (fun _ h => h))
        have hWq := HSQ.out.blw.size
        have HB3 := aside (show b < wq.heap.size from by have := HSZQ.out; omega)
        have HLE := aside (show ((l.take kk).length + 1) * 40 ≤ 140737488355328 from by rw [hlk]; omega)
        clear hlk
        go_region_law (first
          | (refine Kd.R_append_step kPat (w0 := W) (W := w1) W.heap.size (by rfl) (.tmp 23) (.tmp 30) 22 40 (.agg #[.string ⟨#[]⟩, .slice none 0 0]) 40 rfl Try.underlying22 info_pat rfl (by decide) (by omega) (.slice A0 kk n0) (l.take kk) x [.string x.f0, .slice A2 x.f1.length c2] (fun k => k ≠ b) (fun k => wq.heap.size ≤ k) (by rfl) (by rfl)
              (Pr.k40_mkM w1 W.heap.size _ x (Kd.R_lower (Kd.R_mono (Kd.R_bound hR1.out) (fun k hk => hk.2.1)) hWq)) (fun k hk => ⟨by have hk : wq.heap.size ≤ k := hk; show k ≠ b; have := HB3.out; omega, fun e => by have hk : wq.heap.size ≤ k := hk; have := HLT.out k e.symm; omega⟩) (fun k hk => by show k ≠ b; have := HB3.out; have := hB1.out.size; omega) (Kd.R_below HO0.out hB1.out) (below_next HSQ.out.blw hB1.out) (by have := hB1.out.size; omega) HLE.out ?_
             intro v2 w2 hR2 hB2 hG2 hat2
             obtain ⟨A3, c3, hv2⟩ := Kd.R_slice hR2
             have hR2 := aside hR2
             subst hv2
             have h2b := aside (blk_grown ((hB1.out.block b HB3.out).trans HSQ.out.hb) hG2 HNE.out)
             have q2 := (blk_cell h2b.out 0).trans (show _ = some (.slice A0 (l.take kk).length n0) from rfl)
             have f2 := blk_frozen h2b.out 0
             have hB2 := aside hB2
             clear hG2 hat2)
          | (go_simp; go_at_call 31; refine (iclone_any A1 c1 x.f1 _ (Kd.C_below HCQ.out (below_drew (Below.refl _ _))) hl1).mono ?_; rintro e w1 ⟨v1, rfl, hR1, hb1⟩
             have hB1 := aside (show Below wq.heap.size wq w1 from below_next (below_drew (Below.refl _ _)) hb1)
             have q0 := pw_cell_below hB1.out q0
             have hbw1 : b < w1.heap.size := (by have := HB3.out; have := hB1.out.size; omega)
             have x0 := pw_cell_below hB1.out x0
             obtain ⟨A2, c2, hv⟩ := Kd.R_slice hR1
             have hR1 := aside hR1
             clear hb1
             subst hv))
        all_goals
          go_wp2_with fail
          go_roundg (l.length - (kk + 1))
          case measure => omega
          case rel => exact ⟨kk + 1, by omega, by omega, by go_num, ⟨_, by
            have e : l.take (kk + 1) = l.take kk ++ [x] := by
              rw [List.take_succ_eq_append_getElem hlt, ← HX.out, List.getD_eq_getElem?_getD, List.getElem?_eq_getElem hlt]; rfl
            rw [e]
            have hr := hR2.out
            rw [show (l.take kk ++ [x]).length = kk + 1 from by rw [List.length_append, List.length_take, List.length_singleton]; omega] at hr
            exact NewSt.next h2b.out hr hB2.out hbge⟩⟩
      · have hltz : ¬ (kk : Int) < (l.length : Int) := by omega
        obtain rfl : kk = l.length := by omega
        go_wp2_with fail
        go_ret2
        obtain ⟨c0, hS⟩ := HS.out
        rw [List.take_length] at hS
        refine ⟨hS.blw, ?_⟩
        first | exact ⟨b, rfl, c0, hS⟩ | exact ⟨rfl, c0, hS⟩ | exact ⟨c0, hS⟩
end Go.Proofs.Ytcignolfkocjeaa
