/- trie's made, walked: its function, then the whole. -/
import Derived.Test.YtcignolfkocjeaaTriePure
import Derived.Deep.DeepCutAuto
set_option linter.unusedVariables false
set_option linter.unusedSimpArgs false
namespace Go.Proofs.Ytcignolfkocjeaa
open Go.RowKit Go.Proofs.YtcignolfkocjeaaW.PrintWords

/-- Two maps are made, and stored. -/
def Two (W : World) (b : Nat) (c0 c1 c2 c3 : Value) (wx : World) : Prop :=
  ∃ rs rv, W.heap.size ≤ rs ∧ W.heap.size ≤ rv ∧ rs ≠ rv ∧ wx.heap[b]? = some (.cells #[c0, c1, c2, c3, .int .i64 0, .map (some rs), .map (some rv)] 80 (0, 0)) ∧ MapIs Try.prog 86 wx rs [] ∧ MapIs Try.prog 3 wx rv [] ∧ Keep (fun k => k = b) W wx

theorem two_mk (W : World) (b : Nat) (c0 c1 c2 c3 : Value) (x y : Nat) (hb : W.heap[b]? = some (.cells #[c0, c1, c2, c3, .int .i64 0, .map none, .map none] 80 (0, 0))) (h : (x = W.heap.size ∧ y = W.heap.size + 1) ∨ (x = W.heap.size + 1 ∧ y = W.heap.size)) :
    Two W b c0 c1 c2 c3 ((((W.setCell ⟨b, 5, none⟩ (.map (some x))).setCell ⟨b, 6, none⟩ (.map (some y))).alloc (.map #[] 0)).alloc (.map #[] 0)).drew := by
  obtain ⟨w1, hw1⟩ : ∃ w1, w1 = (W.setCell ⟨b, 5, none⟩ (.map (some x))).setCell ⟨b, 6, none⟩ (.map (some y)) := ⟨_, rfl⟩
  have hb1 : w1.heap[b]? = some (.cells #[c0, c1, c2, c3, .int .i64 0, .map (some x), .map (some y)] 80 (0, 0)) := by
    rw [hw1]; exact blk_set (blk_set hb 5 _) 6 _
  have hs1 : w1.heap.size = W.heap.size := by rw [hw1, World.size_setCell, World.size_setCell]
  have hk1 : Keep (fun k => k = b) W w1 := by
    rw [hw1]; exact (Keep.set (X := fun k => k = b) (p := ⟨b, 5, none⟩) rfl _).trans (Keep.set (X := fun k => k = b) (p := ⟨b, 6, none⟩) rfl _) (fun _ _ h => h)
  rw [← hw1]
  have hA1 : Below w1.heap.size w1 (w1.alloc (.map #[] 0)) := below_alloc (Below.refl _ _) _
  have hA2 : Below w1.heap.size w1 ((w1.alloc (.map #[] 0)).alloc (.map #[] 0)).drew := below_drew (below_alloc hA1 _)
  have e0 : ((w1.alloc (.map #[] 0)).alloc (.map #[] 0)).drew.heap[w1.heap.size]? = some (.map #[] 0) := by
    have h2 : Below (w1.alloc (.map #[] 0)).heap.size (w1.alloc (.map #[] 0)) ((w1.alloc (.map #[] 0)).alloc (.map #[] 0)).drew := below_drew (below_alloc (Below.refl _ _) _)
    exact (h2.block w1.heap.size (by rw [World.size_alloc]; omega)).trans (MapKept.heap_alloc w1 _).1
  have e1 : ((w1.alloc (.map #[] 0)).alloc (.map #[] 0)).drew.heap[w1.heap.size + 1]? = some (.map #[] 0) := by
    have := (MapKept.heap_alloc (w1.alloc (.map #[] 0)) (.map #[] 0)).1
    rw [World.size_alloc] at this
    exact this
  refine ⟨x, y, by omega, by omega, by omega, (hA2.block b (blk_lt hb1)).trans hb1, ⟨⟨#[], 0, ?_, rfl⟩, by simp, List.Pairwise.nil⟩, ⟨⟨#[], 0, ?_, rfl⟩, by simp, List.Pairwise.nil⟩, hk1.trans (Keep.of_below hA2) (fun _ _ h => h)⟩
  · rcases h with ⟨rfl, _⟩ | ⟨rfl, _⟩
    · rw [← hs1]; exact e0
    · rw [← hs1]; exact e1
  · rcases h with ⟨_, rfl⟩ | ⟨_, rfl⟩
    · rw [← hs1]; exact e1
    · rw [← hs1]; exact e0
theorem TrieM.move {W W' : World} {X : Nat → Prop} {b rs rv : Nat} {c0 c1 c2 c3 : Value} {T : TrieS} (h : TrieM W X b rs rv c0 c1 c2 c3 T) (hk : ∀ k, X k → W'.heap[k]? = W.heap[k]?) : TrieM W' X b rs rv c0 c1 c2 c3 T :=
  ⟨(hk _ h.xb).trans h.hb, h.hs.keep (hk _ h.xs), h.hv.keep (fun _ h => h) (fun k e => by rcases e with rfl | ⟨e, _⟩; exact hk _ h.xv; exact hk _ e), h.xb, h.xs, h.xv, h.ne⟩
structure MadeSt (W wr : World) (b rs rv : Nat) (c0 c1 c2 c3 : Value) (L : List PatR) (kk : Nat) : Prop where
  tm : TrieM wr (fun k => k = b ∨ (W.heap.size ≤ k ∧ k < wr.heap.size)) b rs rv c0 c1 c2 c3 (buildT (L.take kk))
  kp : Keep (fun k => k = b) W wr
theorem MadeSt.zero {W wx : World} {b rs rv : Nat} {c0 c1 c2 c3 : Value} {L : List PatR} (h1 : W.heap.size ≤ rs) (h2 : W.heap.size ≤ rv) (hne : rs ≠ rv) (hbl : b < W.heap.size) (hb : wx.heap[b]? = some (.cells #[c0, c1, c2, c3, .int .i64 0, .map (some rs), .map (some rv)] 80 (0, 0)))
    (hs : MapIs Try.prog 86 wx rs []) (hv : MapIs Try.prog 3 wx rv []) (hk : Keep (fun k => k = b) W wx) : MadeSt W (wx.setCell ⟨b, 4, none⟩ (.int .i64 1)) b rs rv c0 c1 c2 c3 L 0 := by
  have hz : (wx.setCell ⟨b, 4, none⟩ (.int .i64 1)).heap.size = wx.heap.size := World.size_setCell _ _ _
  refine ⟨⟨blk_set hb 4 _, hs.keep (Below.heap_setCell _ _ _ _ (by simp only; omega)), ⟨[], rfl, hv.keep (Below.heap_setCell _ _ _ _ (by simp only; omega)), by simp, List.Pairwise.nil⟩, .inl rfl, .inr ⟨h1, by rw [hz]; exact hs.lt⟩, .inr ⟨h2, by rw [hz]; exact hv.lt⟩, hne⟩, hk.trans (Keep.set (X := fun k => k = b) (p := ⟨b, 4, none⟩) rfl _) (fun _ _ h => h)⟩
theorem MadeSt.next {W wr w' : World} {b rs rv : Nat} {c0 c1 c2 c3 : Value} {L : List PatR} {kk : Nat} {o : Obj} (h : MadeSt W wr b rs rv c0 c1 c2 c3 L kk) (hk : kk < L.length) {x : PatR} (hx : L.getD kk zPat = x)
    (hT : TrieM w' (fun k => (k = b ∨ (W.heap.size ≤ k ∧ k < wr.heap.size)) ∨ ((wr.alloc o).heap.size ≤ k ∧ k < w'.heap.size)) b rs rv c0 c1 c2 c3 (putT (buildT (L.take kk)) (bytesOf x.f0) x.f1)) (hK : Keep (fun k => k = b ∨ (W.heap.size ≤ k ∧ k < wr.heap.size)) (wr.alloc o) w') :
    MadeSt W w' b rs rv c0 c1 c2 c3 L (kk + 1) := by
  have hs := h.kp.size
  have hs' := hK.size
  rw [World.size_alloc] at hs'
  refine ⟨?_, (h.kp.trans (Keep.of_below (below_alloc (Below.refl _ _) o)) (fun _ _ h => h)).trans hK (fun k hk e => by rcases e with e | e; exact e; omega)⟩
  have e : L.take (kk + 1) = L.take kk ++ [x] := by
    rw [List.take_succ_eq_append_getElem hk, ← hx, List.getD_eq_getElem?_getD, List.getElem?_eq_getElem hk]; rfl
  rw [e, buildT_snoc]
  refine hT.mono fun k hk => ?_
  rw [World.size_alloc] at hk
  rcases hk with (hk | hk) | hk
  · exact .inl hk
  · exact .inr ⟨hk.1, by omega⟩
  · exact .inr ⟨by omega, hk.2⟩

set_option maxHeartbeats 8000000 in
set_option maxRecDepth 100000 in
theorem madef_any (W : World) (b bt : Nat) (c0 c1_ c2 c3 : Value) (L : List PatR) (Z : Nat → Prop) (hb : W.heap[b]? = some (.cells #[c0, c1_, c2, c3, .int .i64 0, .map none, .map none] 80 (0, 0)))
    (hbt : W.cell? ⟨bt, 0, none⟩ = some (.pointer (some ⟨b, 0, none⟩))) (hne : bt ≠ b) (hR : kPat.R 40 W 0 Z c0 L) (hZ : ∀ k, Z k → k ≠ b) (hL : ∀ x, x ∈ L → PatGood x) (hn : L.length ≤ 300) :
    Calls Try.prog 53 #[.pointer (some ⟨bt, 0, none⟩)] W fun e w' => e = .returned (.tuple #[]) ∧
      ∃ rs rv, TrieM w' (fun k => k = b ∨ (W.heap.size ≤ k ∧ k < w'.heap.size)) b rs rv c0 c1_ c2 c3 (buildT L) ∧ Keep (fun k => k = b) W w' := by
  have h5 := (blk_cell hb 5).trans (show _ = some (.map none) from rfl)
  have h6 := (blk_cell hb 6).trans (show _ = some (.map none) from rfl)
  have z5 := blk_frozen hb 5
  have z6 := blk_frozen hb 6
  have m1 : ∀ w : World, (Instr.makeMap 77 none).run Try.prog w = .ok (.map (some w.heap.size)) (w.alloc (.map #[] 0)) := fun w => rfl
  have m2 : ∀ w : World, (Instr.makeMap 78 none).run Try.prog w = .ok (.map (some w.heap.size)) (w.alloc (.map #[] 0)) := fun w => rfl
  have hA1 : Below W.heap.size W (W.alloc (.map #[] 0)) := below_alloc (Below.refl _ _) _
  have hA2 : Below W.heap.size W ((W.alloc (.map #[] 0)).alloc (.map #[] 0)) := below_alloc hA1 _
  have t1 := pw_cell_below hA1 hbt
  have t2 := pw_cell_below hA2 hbt
  have h51 := pw_cell_below hA1 h5
  have h61 := pw_cell_below hA1 h6
  have h52 := pw_cell_below hA2 h5
  have h62 := pw_cell_below hA2 h6
  have z51 : (W.alloc (.map #[] 0)).frozen? ⟨b, 5, none⟩ = false := blk_frozen ((hA1.block b (blk_lt hb)).trans hb) 5
  have z61 : (W.alloc (.map #[] 0)).frozen? ⟨b, 6, none⟩ = false := blk_frozen ((hA1.block b (blk_lt hb)).trans hb) 6
  have z52 : ((W.alloc (.map #[] 0)).alloc (.map #[] 0)).frozen? ⟨b, 5, none⟩ = false := blk_frozen ((hA2.block b (blk_lt hb)).trans hb) 5
  have z62 : ((W.alloc (.map #[] 0)).alloc (.map #[] 0)).frozen? ⟨b, 6, none⟩ = false := blk_frozen ((hA2.block b (blk_lt hb)).trans hb) 6
  have bl := blk_lt hb
  have bl1 : b < W.heap.size + 1 := by omega
  have tl : bt < W.heap.size := World.block_lt_of_cell? W ⟨bt, 0, none⟩ hbt
  have tl1 : bt < W.heap.size + 1 := by omega
  have HB := aside hb
  have HBT := aside hbt
  have HR := aside hR
  have HZ := aside hZ
  have HL := aside hL
  clear hb hR hZ hL hA1 hA2
  obtain ⟨A, c, hc0, hlc, -⟩ := Kd.R_reads HR.out
  have HC0 := aside hc0
  have HLC := aside hlc
  clear hc0 hlc
  go_enter Try.func53, Try.ntmps53
  go_upto_region 0 with fail
  go_cut [] (fun wx => Aside (Two W b c0 c1_ c2 c3 wx))
  case first =>
    go_region
    all_goals (go_wp2_with fail; go_meet)
    · exact two_mk W b c0 c1_ c2 c3 _ _ HB.out (.inl ⟨rfl, rfl⟩)
    · exact two_mk W b c0 c1_ c2 c3 _ _ HB.out (.inr ⟨rfl, rfl⟩)
  case rest =>
    have H := hcut.out
    clear hcut h5 h6 z5 z6 m1 m2 t1 t2 h51 h61 h52 h62 z51 z61 z52 z62 bl1 tl1 hbt
    obtain ⟨rs, rv, g1, g2, g3, g4, g5, g6, g7⟩ := H
    have hbt := g7.cell HBT.out hne
    have hx4 := (blk_cell g4 4).trans (show _ = some (.int .i64 0) from rfl)
    have hz4 := blk_frozen g4 4
    have HS0 := aside (MadeSt.zero (L := L) g1 g2 g3 bl g4 g5 g6 g7)
    have HA := aside (istore_any b 4 _ 1 _ hx4 hz4)
    have hb0 := (blk_cell HS0.out.tm.hb 0).trans (show _ = some c0 from rfl)
    rw [HC0.out] at hb0
    have hbt' := HS0.out.kp.cell HBT.out hne
    clear g4 g5 g6 g7 hx4 hz4
    go_wp2_with (go_at_call 54; refine HA.out.mono ?_; rintro e w' ⟨rfl, hw⟩; obtain rfl := hw.symm)
    go_loopg [20] L.length (fun gg s20 wr => ∃ kk : Nat, kk ≤ L.length ∧ L.length - kk ≤ gg ∧ s20 = .int .i64 kk ∧ Aside (MadeSt W wr b rs rv c0 c1_ c2 c3 L kk))
    case atStart => exact ⟨0, Nat.zero_le _, by omega, rfl, HS0⟩
    case round =>
      obtain ⟨kk, hkk, hg, rfl, HS⟩ := hrel
      by_cases hlt : kk < L.length
      · have hltz : (kk : Int) < (L.length : Int) := by omega
        obtain ⟨gA, cap, e1, _, _, _⟩ := Kd.R_form HR.out (by omega)
        rw [HC0.out] at e1
        injection e1 with e1 _ e3
        subst e1
        obtain rfl := e3.symm
        have hRr : kPat.R 40 wr 0 (fun k => Z k ∧ k < W.heap.size) (.slice (some ⟨gA, 0, none⟩) L.length cap) L := Kd.R_mono (Kd.R_step (Kd.R_bound (HC0.out ▸ HR.out)) (fun k ho hlt => HS.out.kp.block k ho.2.2.1 (HZ.out k ho.1))) (fun k hk => ⟨hk.1, hk.2.2.1⟩)
        obtain ⟨cs, hcl, hM, hcc, -⟩ := Kd.R_elem hRr zPat kk (by omega) (by omega)
        rw [Int.toNat_natCast] at hM hcc
        have hX : ∃ x, L.getD kk zPat = x := ⟨_, rfl⟩
        obtain ⟨x, hx⟩ := hX
        rw [hx] at hM
        obtain ⟨v1, rfl, hv1⟩ := Pr.k40_openM hM
        obtain ⟨A1, c1, rfl, hlc1, hC1⟩ := Kd.R_reads hv1
        have hxm : x ∈ L := by rw [← hx, List.getD_eq_getElem?_getD, List.getElem?_eq_getElem hlt]; exact List.getElem_mem _
        obtain ⟨hxs, hxl, hxd⟩ := HL.out x hxm
        have hfar : ∀ ad, A1 = some ad → 0 < x.f1.length → ¬ (ad.block = b ∨ (W.heap.size ≤ ad.block ∧ ad.block < wr.heap.size)) := by
          intro ad e hp hb
          obtain ⟨g', cap', e', -, -, -⟩ := Kd.R_form hv1 hp
          injection e' with e' _ _
          rw [e] at e'
          injection e' with e'
          have hz := (hv1.1 g' (by rw [e, e']; rfl)).1
          rw [e'] at hb
          rcases hb with hb | hb
          · exact HZ.out g' hz.1 hb
          · have := hz.2; simp only at hb; omega
        have hca : wr.cell? ⟨gA, kk * 2, none⟩ = some (.string x.f0) := hcc 0 _ rfl
        have hcb : wr.cell? ⟨gA, kk * 2 + 1, none⟩ = some (.slice A1 x.f1.length c1) := hcc 1 _ rfl
        obtain ⟨path, hP, hPN⟩ := TInv.build (L.take kk) (fun y hy => HL.out y (List.mem_of_mem_take hy))
        have hsz := sizes_le (L.take kk) (fun y hy => HL.out y (List.mem_of_mem_take hy))
        rw [List.length_take] at hsz
        obtain ⟨_, _, _, _, _, hold⟩ := hP.put (x := x) ⟨hxs, hxl, hxd⟩
        have hbA : Below wr.heap.size wr (wr.alloc (.cells #[.string x.f0, .slice A1 x.f1.length c1] 40)) := below_alloc (Below.refl _ _) _
        have hWs := HS.out.kp.size
        have HPUT := aside (put_any (wr.alloc (.cells #[.string x.f0, .slice A1 x.f1.length c1] 40)) (fun k => k = b ∨ (W.heap.size ≤ k ∧ k < wr.heap.size)) b rs rv c0 c1_ c2 c3 (buildT (L.take kk)) x.f0 x.f1 A1 c1
          (HS.out.tm.move (fun k hk => hbA.block k (by rcases hk with rfl | hk; exact Nat.lt_of_lt_of_le bl hWs; exact hk.2))) (fun k hk => by rw [World.size_alloc]; rcases hk with rfl | hk <;> omega)
          (Kd.C_below hC1 hbA) hfar (by omega) (by omega) (by omega) hP.1.ok ⟨hP.1.2.1, by omega⟩ hold)
        have HX := aside hx
        have hbtr := HS.out.kp.cell HBT.out hne
        have tlr : bt < wr.heap.size := Nat.lt_of_lt_of_le tl hWs
        clear hRr hcl hM hcc hx hv1 hlc1 hC1 hxm hxs hxl hxd hfar hP hPN hsz hold hbA hbt hbt' hb0
        go_wp2_with (go_at_call 55; refine HPUT.out.mono ?_; rintro e w' ⟨rfl, hT, hK⟩)
        go_roundg (L.length - (kk + 1))
        case measure => omega
        case rel => exact ⟨kk + 1, by omega, by omega, by go_num, HS.out.next hlt HX.out hT hK⟩
      · have hltz : ¬ (kk : Int) < (L.length : Int) := by omega
        obtain rfl : kk = L.length := by omega
        go_wp2_with fail
        go_end0
        refine ⟨rfl, ⟨rs, rv, ?_⟩, HS.out.kp⟩
        have := HS.out.tm
        rw [List.take_length] at this
        exact this
end Go.Proofs.Ytcignolfkocjeaa
