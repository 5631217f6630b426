/- compositorlaw07's awake, walked. -/
import Derived.Test.YtllllmhekdcbiaaTfmOf
set_option linter.unusedVariables false
set_option linter.unusedSimpArgs false
namespace Go.Proofs.Ytllllmhekdcbiaa
open Go.RowKit Go.Proofs.YtllllmhekdcbiaaW.PrintWords

def font0 : FontR := ⟨0, 1048576, 65, [⟨1, 0, 0, 0, 0, 0⟩], [0, 524288], [0], [0], [0], [], [], []⟩

theorem char1_C {W : World} {g : Nat} {t : TypeId} (x : ChR) (h : W.heap[g]? = some (.cells #[.int .i64 x.w, .int .i64 x.h, .int .i64 x.d, .int .i64 x.i, .int .i64 x.t, .int .i64 x.r] t (0, 0))) : kChar.C W (some ⟨g, 0, none⟩) 1 [x] :=
  ⟨rfl, by decide, fun _ => ⟨_, rfl, fun j p hj => by
    match j, hj with
    | 0, hj =>
      cases hj
      refine ⟨[.int .i64 x.w, .int .i64 x.h, .int .i64 x.d, .int .i64 x.i, .int .i64 x.t, .int .i64 x.r], rfl, Kd.K_of_M _ (kChar_M W 0 (fun _ => True) x), fun i u hu => ?_⟩
      show W.cell? ((⟨g, 0, none⟩ : Addr).add (0 * 6 + i)) = _
      rw [Nat.zero_mul, Nat.zero_add, add_plain, blk_cell h i, ← hu]
      simp⟩⟩
theorem bytes_all {l : List Int} (h : ∀ x, x ∈ l → 0 ≤ x ∧ x < 256) : Bytes l := by
  intro k
  rw [List.getD_eq_getElem?_getD]
  cases hk : l[k]? with
  | none => simp
  | some x =>
    have := h x (List.mem_of_getElem? hk)
    simpa using this
instance : DecidableEq FontR := fun a b => decidable_of_iff (sameF a b = true) (sameF_iff a b)
theorem bytes_snoc {l : List Int} (h : Bytes l) : Bytes (l ++ [0]) := by
  intro k
  have hk := h k
  rw [List.getD_eq_getElem?_getD] at hk ⊢
  by_cases h1 : k < l.length
  · rw [List.getElem?_append_left h1]; exact hk
  · rw [List.getElem?_append_right (by omega)]
    by_cases h2 : k - l.length = 0
    · rw [h2]; simp
    · rw [List.getElem?_eq_none (by simp; omega)]; simp
theorem six (w : World) (a b c d e f : Obj) : ((((((w.alloc a).alloc b).alloc c).alloc d).alloc e).alloc f).heap[w.heap.size]? = some a ∧ ((((((w.alloc a).alloc b).alloc c).alloc d).alloc e).alloc f).heap[w.heap.size + 1]? = some b ∧ ((((((w.alloc a).alloc b).alloc c).alloc d).alloc e).alloc f).heap[w.heap.size + 1 + 1]? = some c ∧ ((((((w.alloc a).alloc b).alloc c).alloc d).alloc e).alloc f).heap[w.heap.size + 1 + 1 + 1]? = some d ∧ ((((((w.alloc a).alloc b).alloc c).alloc d).alloc e).alloc f).heap[w.heap.size + 1 + 1 + 1 + 1]? = some e ∧ ((((((w.alloc a).alloc b).alloc c).alloc d).alloc e).alloc f).heap[w.heap.size + 1 + 1 + 1 + 1 + 1]? = some f := by
  have h1 : ∀ (W : World) (o : Obj) (k : Nat) (o' : Obj), W.heap[k]? = some o' → (W.alloc o).heap[k]? = some o' := fun W o k o' h => blk_alloc h o
  have h2 : ∀ (W : World) (o : Obj) (k : Nat), k = W.heap.size → (W.alloc o).heap[k]? = some o := fun W o k h => by subst h; exact blk_new W o
  refine ⟨?_, ?_, ?_, ?_, ?_, ?_⟩
  · exact h1 _ _ _ _ (h1 _ _ _ _ (h1 _ _ _ _ (h1 _ _ _ _ (h1 _ _ _ _ (h2 _ _ _ rfl)))))
  · exact h1 _ _ _ _ (h1 _ _ _ _ (h1 _ _ _ _ (h1 _ _ _ _ (h2 _ _ _ (by simp)))))
  · exact h1 _ _ _ _ (h1 _ _ _ _ (h1 _ _ _ _ (h2 _ _ _ (by simp))))
  · exact h1 _ _ _ _ (h1 _ _ _ _ (h2 _ _ _ (by simp)))
  · exact h1 _ _ _ _ (h2 _ _ _ (by simp))
  · exact h2 _ _ _ (by simp)
set_option maxHeartbeats 4000000 in
theorem awake_any (w : World) : Calls Try.prog 7 #[] w fun e w' => e = .returned (.bool true) ∧ Below w.heap.size w w' := by
  go_enter Try.func7, Try.ntmps7
  go_wp2_with fail
  obtain ⟨W, hW⟩ : ∃ W, W = ((((((w.alloc (.cells #[.int .i64 1, .int .i64 0, .int .i64 0, .int .i64 0, .int .i64 0, .int .i64 0] 40)).alloc (.cells #[.int .i64 0, .int .i64 524288] 3)).alloc (.cells #[.int .i64 0] 3)).alloc (.cells #[.int .i64 0] 3)).alloc (.cells #[.int .i64 0] 3)).alloc (.cells #[.int .i64 0, .int .i64 1048576, .int .i64 65, .slice (some ⟨w.heap.size, 0, none⟩) 1 1, .slice (some ⟨w.heap.size + 1, 0, none⟩) 2 2, .slice (some ⟨w.heap.size + 1 + 1, 0, none⟩) 1 1, .slice (some ⟨w.heap.size + 1 + 1 + 1, 0, none⟩) 1 1, .slice (some ⟨w.heap.size + 1 + 1 + 1 + 1, 0, none⟩) 1 1, .slice none 0 0, .slice none 0 0, .slice none 0 0] 26)) := ⟨_, rfl⟩
  have hb : Below w.heap.size w W := by rw [hW]; exact (((((below_alloc (Below.refl _ _) _).alloc (by simp) _).alloc (by simp; omega) _).alloc (by simp; omega) _).alloc (by simp; omega) _).alloc (by simp; omega) _
  obtain ⟨p0, p1, p2, p3, p4, hfb⟩ := six w _ _ _ _ _ _
  rw [← hW] at p0 p1 p2 p3 p4 hfb
  have hF : FontOf W (.agg #[.int .i64 0, .int .i64 1048576, .int .i64 65, .slice (some ⟨w.heap.size, 0, none⟩) 1 1, .slice (some ⟨w.heap.size + 1, 0, none⟩) 2 2, .slice (some ⟨w.heap.size + 1 + 1, 0, none⟩) 1 1, .slice (some ⟨w.heap.size + 1 + 1 + 1, 0, none⟩) 1 1, .slice (some ⟨w.heap.size + 1 + 1 + 1 + 1, 0, none⟩) 1 1, .slice none 0 0, .slice none 0 0, .slice none 0 0]) font0 :=
    ⟨_, _, _, _, _, _, _, _, _, _, _, _, _, _, _, _, rfl, char1_C ⟨1, 0, 0, 0, 0, 0⟩ p0, blk_C [0, 524288] p1 (by decide), blk_C [0] p2 (by decide), blk_C [0] p3 (by decide), blk_C [0] p4 (by decide), Kd.C_nil _ _, Kd.C_nil _ _, Kd.C_nil _ _⟩
  rw [← hW]
  clear hW p0 p1 p2 p3 p4
  obtain ⟨y0, y1, y2, y3, y4, y5, y6, y7, y8, y9, y10⟩ := font_cells hfb
  have hck : checkF font0 = true := by decide
  refine (write_of hF).mono ?_
  rw [if_pos hck, if_pos hck]
  rintro e w1 ⟨u, rfl, hu, hB1⟩
  have hL : (bytesF font0).length = 56 := by decide
  have hby : Bytes (bytesF font0) := bytes_all (by decide)
  have hrd : rdA (bytesF font0) = some font0 := by decide +kernel
  have hrd2 : rdA (bytesF font0 ++ [0]) = none := if_neg (by rw [List.length_append, hL]; decide)
  generalize bytesF font0 = L at hu hL hby hrd hrd2
  obtain ⟨A, c, hv, hc, hC⟩ := Kd.R_reads hu
  subst hv
  have HU := aside hu
  have HF := aside (hF.below hB1)
  have HB := aside (below_next hb hB1)
  clear hu hF hb
  go_wp2_with fail
  have hread := read_of (w := w1) hC hc hby (by omega)
  rw [hL, show readF L = font0 by rw [readF, hrd]; rfl, show readErr L = 0 by rw [readErr, hrd]; rfl] at hread
  refine hread.mono ?_
  rintro e w2 ⟨v, rfl, hG, hB2⟩
  have HG := aside hG
  obtain ⟨B3, B4, B5, B6, B7, B8, B9, B10, e3, e4, e5, e6, e7, e8, e9, e10, hv, _⟩ := hG
  subst hv
  replace HU := aside (Kd.R_below HU.out hB2)
  replace HF := aside (HF.out.below hB2)
  replace HB := aside (below_next HB.out hB2)
  have HX := aside (blk_below (blk_below hfb hB1) hB2)
  clear hread hC y0 y1 y2 y3 y4 y5 y6 y7 y8 y9 y10 hfb hB1 hB2
  go_wp2_with (at_builtin; refine Kd.R_append_rows (Kd.int .u8) (w0 := w2.alloc (.cells #[.int .i64 font0.s, .int .i64 font0.d, .int .i64 font0.f, .slice B3 font0.l3.length e3, .slice B4 font0.l4.length e4, .slice B5 font0.l5.length e5, .slice B6 font0.l6.length e6, .slice B7 font0.l7.length e7, .slice B8 font0.l8.length e8, .slice B9 font0.l9.length e9, .slice B10 font0.l10.length e10] 26)) (w2.heap.size + 1) rfl (.tmp 29) (.tmp 30) 27 5 (.int .u8 0) 1 rfl Try.underlying27 info_u8 rfl (by decide) (by omega) (.slice (some ⟨w2.heap.size + 1, 0, none⟩) 0 0) [] L _ _ _ (fun _ => True) (fun _ => False) rfl rfl ?aO ?aR (fun _ _ h => h) (fun _ h => h.elim) (fun _ _ => trivial) ?aB ?aS ?aL ?_)
  case aO =>
    have h := fun o => World.ownsRow_made (base := w2.heap.size + 1) (e := 5) (size := 1) (w2.alloc o) #[] 0 (by simp) (Nat.zero_le _) rfl
    simp only [World.size_alloc] at h
    exact Kd.R_of_own (h _) (fun _ _ => trivial)
  case aR =>
    have h := (Kd.R_reads' HU.out).2.2
    rw [hL] at h
    exact Kd.C_below h ((below_alloc (Below.refl _ _) _).alloc (by simp) _)
  case aB => exact (Below.refl _ _).alloc (by simp) _
  case aS => simp
  case aL => simp
  intro v1 w3 hR3 hB3 _ _
  go_wp2_with (at_builtin; refine Kd.R_append (Kd.int .u8) (w0 := w2.alloc (.cells #[.int .i64 font0.s, .int .i64 font0.d, .int .i64 font0.f, .slice B3 font0.l3.length e3, .slice B4 font0.l4.length e4, .slice B5 font0.l5.length e5, .slice B6 font0.l6.length e6, .slice B7 font0.l7.length e7, .slice B8 font0.l8.length e8, .slice B9 font0.l9.length e9, .slice B10 font0.l10.length e10] 26)) (w2.heap.size + 1) rfl (.tmp 31) (.tmp 32) 27 5 (.int .u8 0) 1 rfl Try.underlying27 info_u8 rfl (by decide) (by omega) v1 L _ _ (fun _ => True) (fun _ => False) rfl rfl rfl (fun _ hk => hk.elim) (fun _ _ => trivial) hR3 hB3 (by have := hB3.size; simpa using this) (by omega) ?_)
  intro v2 w4 hR4 hB4 _ _
  obtain ⟨A2, c2, hv, hc2, hC2⟩ := Kd.R_reads hR4
  subst hv
  have hl2 : (L ++ [0]).length = 57 := by rw [List.length_append, hL]; rfl
  have hby2 : Bytes (L ++ [0]) := bytes_snoc hby
  have hread := read_of (w := w4) hC2 hc2 hby2 (by omega)
  rw [hl2, show readF (L ++ [0]) = zeroF by rw [readF, hrd2]; rfl, show readErr (L ++ [0]) = 70 by rw [readErr, hrd2]; rfl] at hread
  rw [hl2] at hR4 ⊢
  obtain ⟨W3, hW3⟩ : ∃ W3, W3 = w2.alloc (.cells #[.int .i64 font0.s, .int .i64 font0.d, .int .i64 font0.f, .slice B3 font0.l3.length e3, .slice B4 font0.l4.length e4, .slice B5 font0.l5.length e5, .slice B6 font0.l6.length e6, .slice B7 font0.l7.length e7, .slice B8 font0.l8.length e8, .slice B9 font0.l9.length e9, .slice B10 font0.l10.length e10] 26) := ⟨_, rfl⟩
  have hB23 : Below w2.heap.size w2 W3 := by rw [hW3]; exact below_alloc (Below.refl _ _) _
  have hY : W3.heap[w2.heap.size]? = some (.cells #[.int .i64 font0.s, .int .i64 font0.d, .int .i64 font0.f, .slice B3 font0.l3.length e3, .slice B4 font0.l4.length e4, .slice B5 font0.l5.length e5, .slice B6 font0.l6.length e6, .slice B7 font0.l7.length e7, .slice B8 font0.l8.length e8, .slice B9 font0.l9.length e9, .slice B10 font0.l10.length e10] 26 (0, 0)) := by rw [hW3]; exact blk_new _ _
  have hs3 : w2.heap.size + 1 = W3.heap.size := by rw [hW3]; simp
  rw [← hW3, hs3] at hB4
  clear hW3 hB3 hR3 hR4 hC2 hby2
  go_wp2_with fail
  refine hread.mono ?_
  rintro e w5 ⟨v, rfl, hZ, hB5⟩
  obtain ⟨C3, C4, C5, C6, C7, C8, C9, C10, d3, d4, d5, d6, d7, d8, d9, d10, hv, _⟩ := hZ
  subst hv
  have hB35 := below_next hB4 hB5
  have HY := aside (blk_below hY hB35)
  have hB25 := below_next hB23 hB35
  replace HF := aside (HF.out.below hB25)
  replace HG := aside (HG.out.below hB25)
  replace HX := aside (blk_below HX.out hB25)
  replace HB := aside (below_next HB.out hB25)
  clear hread hB23 hY hB4 hB5 hB35 hB25 hs3
  go_wp2_with fail
  refine (write_of (zeroF_of _)).mono ?_
  rw [if_neg (show ¬ checkF zeroF = true by decide), if_neg (show ¬ checkF zeroF = true by decide)]
  rintro e w6 ⟨u, rfl, hR6, hB6'⟩
  have hB6 := below_next (below_alloc (Below.refl w5.heap.size w5) _) hB6'
  obtain ⟨A6, c6, hv⟩ := Kd.R_slice hR6
  subst hv
  replace HF := aside (HF.out.below hB6)
  replace HG := aside (HG.out.below hB6)
  replace HX := aside (blk_below HX.out hB6)
  replace HY := aside (blk_below HY.out hB6)
  replace HB := aside (below_next HB.out hB6)
  clear hB6 hB6' hR6
  obtain ⟨y0, y1, y2, y3, y4, y5, y6, y7, y8, y9, y10⟩ := font_cells HX.out
  obtain ⟨x0, x1, x2, x3, x4, x5, x6, x7, x8, x9, x10⟩ := font_cells HY.out
  go_wp2_with fail
  clear x0 x1 x2 x3 x4 x5 x6 x7 x8 x9 x10
  have hcall := same_of HF.out HG.out
  rw [show sameF font0 font0 = true by decide] at hcall
  refine hcall.mono ?_
  rintro e w7 ⟨rfl, hB7⟩
  replace HF := aside (HF.out.below hB7)
  replace HG := aside (HG.out.below hB7)
  replace HX := aside (blk_below HX.out hB7)
  replace HY := aside (blk_below HY.out hB7)
  replace HB := aside (below_next HB.out hB7)
  clear hcall hB7 y0 y1 y2 y3 y4 y5 y6 y7 y8 y9 y10
  obtain ⟨y0, y1, y2, y3, y4, y5, y6, y7, y8, y9, y10⟩ := font_cells HX.out
  go_wp2_with fail
  have hcall := check_of HF.out
  rw [hck] at hcall
  refine hcall.mono ?_
  rintro e w8 ⟨rfl, hB8⟩
  replace HF := aside (HF.out.below hB8)
  replace HG := aside (HG.out.below hB8)
  replace HX := aside (blk_below HX.out hB8)
  replace HY := aside (blk_below HY.out hB8)
  replace HB := aside (below_next HB.out hB8)
  clear hcall hB8 y0 y1 y2 y3 y4 y5 y6 y7 y8 y9 y10
  obtain ⟨y0, y1, y2, y3, y4, y5, y6, y7, y8, y9, y10⟩ := font_cells HX.out
  go_wp2_with fail
  have hcall := check_of (zeroF_of w8)
  rw [show checkF zeroF = false by decide] at hcall
  refine hcall.mono ?_
  rintro e w9 ⟨rfl, hB9⟩
  replace HF := aside (HF.out.below hB9)
  replace HG := aside (HG.out.below hB9)
  replace HX := aside (blk_below HX.out hB9)
  replace HY := aside (blk_below HY.out hB9)
  replace HB := aside (below_next HB.out hB9)
  clear hcall hB9 y0 y1 y2 y3 y4 y5 y6 y7 y8 y9 y10
  obtain ⟨y0, y1, y2, y3, y4, y5, y6, y7, y8, y9, y10⟩ := font_cells HX.out
  go_wp2_with fail
  have hcall := has_of 65 HF.out
  rw [show hasB font0.s font0.d font0.f font0.l3 font0.l4 font0.l5 font0.l6 font0.l7 font0.l8 font0.l9 font0.l10 65 = true by decide] at hcall
  refine hcall.mono ?_
  rintro e w10 ⟨rfl, hB10⟩
  replace HF := aside (HF.out.below hB10)
  replace HG := aside (HG.out.below hB10)
  replace HX := aside (blk_below HX.out hB10)
  replace HY := aside (blk_below HY.out hB10)
  replace HB := aside (below_next HB.out hB10)
  clear hcall hB10 y0 y1 y2 y3 y4 y5 y6 y7 y8 y9 y10
  obtain ⟨y0, y1, y2, y3, y4, y5, y6, y7, y8, y9, y10⟩ := font_cells HX.out
  go_wp2_with fail
  have hcall := has_of 66 HF.out
  rw [show hasB font0.s font0.d font0.f font0.l3 font0.l4 font0.l5 font0.l6 font0.l7 font0.l8 font0.l9 font0.l10 66 = false by decide] at hcall
  refine hcall.mono ?_
  rintro e w11 ⟨rfl, hB11⟩
  replace HF := aside (HF.out.below hB11)
  replace HG := aside (HG.out.below hB11)
  replace HX := aside (blk_below HX.out hB11)
  replace HY := aside (blk_below HY.out hB11)
  replace HB := aside (below_next HB.out hB11)
  clear hcall hB11 y0 y1 y2 y3 y4 y5 y6 y7 y8 y9 y10
  obtain ⟨y0, y1, y2, y3, y4, y5, y6, y7, y8, y9, y10⟩ := font_cells HX.out
  go_wp2_with fail
  go_ret
  exact ⟨rfl, HB.out⟩
end Go.Proofs.Ytllllmhekdcbiaa
