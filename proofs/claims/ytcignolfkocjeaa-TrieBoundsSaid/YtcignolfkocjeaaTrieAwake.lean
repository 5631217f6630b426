/- compositorlaw11's awake, walked. -/
import Derived.Test.YtcignolfkocjeaaTrieFew
import Derived.Test.YtcignolfkocjeaaSame
set_option linter.unusedVariables false
set_option linter.unusedSimpArgs false
namespace Go.Proofs.Ytcignolfkocjeaa
open Go.RowKit Go.Proofs.YtcignolfkocjeaaW.PrintWords

def patA : PatR := ⟨⟨#[97, 98]⟩, [0, 1, 0]⟩
def patD : PatR := ⟨⟨#[46, 97]⟩, [0, 0, 2]⟩
theorem awake_vals : checkP [patA, patD] [] = true ∧ checkP [zPat] [] = false ∧ valuesS [patA, patD] ⟨#[97, 98]⟩ = [0, 2, 0] ∧ valuesS [patA, patD] ⟨#[65]⟩ = [] ∧ (buildT [patA, patD]).N = 5 := by decide +kernel
theorem two_C {W : World} {g a b : Nat} {t : TypeId} (x y : PatR) (h : W.heap[g]? = some (.cells #[.string x.f0, .slice (some ⟨a, 0, none⟩) x.f1.length x.f1.length, .string y.f0, .slice (some ⟨b, 0, none⟩) y.f1.length y.f1.length] t (0, 0)))
    (hx : (Kd.int .i64).C W (some ⟨a, 0, none⟩) x.f1.length x.f1) (hy : (Kd.int .i64).C W (some ⟨b, 0, none⟩) y.f1.length y.f1) : kPat.C W (some ⟨g, 0, none⟩) 2 [x, y] :=
  ⟨rfl, by decide, fun _ => ⟨_, rfl, fun j p hj => by
    match j, hj with
    | 0, hj =>
      cases hj
      refine ⟨[.string x.f0, .slice (some ⟨a, 0, none⟩) x.f1.length x.f1.length], rfl, Pr.k40_mk W x (Nat.le_refl _) hx, fun i u hu => ?_⟩
      show W.cell? ((⟨g, 0, none⟩ : Addr).add (0 * 2 + i)) = _
      rw [Nat.zero_mul, Nat.zero_add, add_plain, blk_cell h i, ← hu]
      match i, hu with
      | 0, _ => rfl
      | 1, _ => rfl
    | 1, hj =>
      cases hj
      refine ⟨[.string y.f0, .slice (some ⟨b, 0, none⟩) y.f1.length y.f1.length], rfl, Pr.k40_mk W y (Nat.le_refl _) hy, fun i u hu => ?_⟩
      show W.cell? ((⟨g, 0, none⟩ : Addr).add (1 * 2 + i)) = _
      rw [add_plain, blk_cell h (1 * 2 + i), ← hu]
      match i, hu with
      | 0, _ => rfl
      | 1, _ => rfl⟩⟩
theorem one_C {W : World} {g : Nat} {t : TypeId} (h : W.heap[g]? = some (.cells #[.string ⟨#[]⟩, .slice none 0 0] t (0, 0))) : kPat.C W (some ⟨g, 0, none⟩) 1 [zPat] :=
  ⟨rfl, by decide, fun _ => ⟨_, rfl, fun j p hj => by
    match j, hj with
    | 0, hj =>
      cases hj
      refine ⟨[.string ⟨#[]⟩, .slice none 0 0], rfl, Pr.k40_mk W zPat (Nat.le_refl _) (Kd.C_nil _ _), fun i u hu => ?_⟩
      show W.cell? ((⟨g, 0, none⟩ : Addr).add (0 * 2 + i)) = _
      rw [Nat.zero_mul, Nat.zero_add, add_plain, blk_cell h i, ← hu]
      match i, hu with
      | 0, _ => rfl
      | 1, _ => rfl⟩⟩

set_option maxHeartbeats 1600000 in
set_option maxRecDepth 100000 in
theorem awake11_any (w : World) : Calls Try.prog 14 #[] w fun e w' => e = .returned (.bool true) ∧ Below w.heap.size w w' := by
  obtain ⟨V1, V2, V3, V4, V5⟩ := awake_vals
  have H1 := aside V1
  have H2 := aside V2
  have H3 := aside V3
  have H4 := aside V4
  have H5 := aside V5
  clear V1 V2 V3 V4 V5
  go_enter Try.func14, Try.ntmps14
  go_wp2_with fail
  obtain ⟨W1, hW1⟩ : ∃ W1, W1 = ((((w.alloc (.cells #[.int .i64 0, .int .i64 1, .int .i64 0] 3)).alloc (.cells #[.int .i64 0, .int .i64 0, .int .i64 2] 3)).alloc (.cells #[.string ⟨#[97, 98]⟩, .slice (some ⟨w.heap.size, 0, none⟩) 3 3, .string ⟨#[46, 97]⟩, .slice (some ⟨w.heap.size + 1, 0, none⟩) 3 3] 40)).alloc (.cells #[.slice (some ⟨w.heap.size + 1 + 1, 0, none⟩) 2 2, .slice none 0 0] 25)) := ⟨_, rfl⟩
  have hB0 : Below w.heap.size w W1 := by rw [hW1]; exact (((below_alloc (Below.refl _ _) _).alloc (by simp) _).alloc (by simp; omega) _).alloc (by simp; omega) _
  have p0 : W1.heap[w.heap.size]? = some (.cells #[.int .i64 0, .int .i64 1, .int .i64 0] 3 (0, 0)) := by rw [hW1]; exact blk_alloc (blk_alloc (blk_alloc (blk_new _ _) _) _) _
  have p1 : W1.heap[w.heap.size + 1]? = some (.cells #[.int .i64 0, .int .i64 0, .int .i64 2] 3 (0, 0)) := by
    rw [hW1]; refine blk_alloc (blk_alloc ?_ _) _
    have := blk_new (w.alloc (.cells #[.int .i64 0, .int .i64 1, .int .i64 0] 3)) (.cells #[.int .i64 0, .int .i64 0, .int .i64 2] 3)
    rw [World.size_alloc] at this; exact this
  have p2 : W1.heap[w.heap.size + 1 + 1]? = some (.cells #[.string ⟨#[97, 98]⟩, .slice (some ⟨w.heap.size, 0, none⟩) 3 3, .string ⟨#[46, 97]⟩, .slice (some ⟨w.heap.size + 1, 0, none⟩) 3 3] 40 (0, 0)) := by
    rw [hW1]; refine blk_alloc ?_ _
    have := blk_new ((w.alloc (.cells #[.int .i64 0, .int .i64 1, .int .i64 0] 3)).alloc (.cells #[.int .i64 0, .int .i64 0, .int .i64 2] 3)) (.cells #[.string ⟨#[97, 98]⟩, .slice (some ⟨w.heap.size, 0, none⟩) 3 3, .string ⟨#[46, 97]⟩, .slice (some ⟨w.heap.size + 1, 0, none⟩) 3 3] 40)
    rw [World.size_alloc, World.size_alloc] at this; exact this
  have hP1 : PatsOf W1 (.agg #[.slice (some ⟨w.heap.size + 1 + 1, 0, none⟩) 2 2, .slice none 0 0]) [patA, patD] [] :=
    ⟨_, _, _, _, rfl, Nat.le_refl _, Nat.le_refl _, two_C patA patD p2 (blk_C [0, 1, 0] p0 (by decide)) (blk_C [0, 0, 2] p1 (by decide)), Kd.C_nil _ _⟩
  have hO1 : PatsOk [patA, patD] := fun j => by
    match j with
    | 0 => decide
    | 1 => decide
    | n + 2 => show zPat.f0.size ≤ _; decide
  have hO2 : PatsOk [zPat] := fun j => by
    match j with
    | 0 => decide
    | n + 1 => show zPat.f0.size ≤ _; decide
  have hE0 : ExcsOk [] := fun j => by show zExc.f0.size ≤ _; decide
  rw [← hW1]
  have HO2 := aside hO2
  have HE0 := aside hE0
  have HB0 := aside hB0
  refine (new_any _ [patA, patD] [] W1 hP1 hO1 hE0).mono ?_
  clear hW1 hB0 p0 p1 p2 hP1 hO1 hO2 hE0
  rintro e w1 ⟨hb1, ⟨h, -⟩ | ⟨-, b, c0, rfl, hN⟩⟩
  · rw [H1.out] at h; cases h
  have HN := aside hN
  have HB1 := aside (below_next HB0.out hb1)
  clear hN hb1
  go_wp2_with fail
  refine (new_any _ [zPat] [] _ ⟨_, _, _, _, rfl, Nat.le_refl _, Nat.le_refl _, one_C (blk_new w1 _), Kd.C_nil _ _⟩ HO2.out HE0.out).mono ?_
  rintro e w2 ⟨hb2, ⟨-, rfl⟩ | ⟨h, -⟩⟩
  case inr => rw [H2.out] at h; cases h
  have hb12 : Below w1.heap.size w1 w2 := below_next (below_alloc (Below.refl _ _) _) hb2
  have HT2 := aside (HN.out.is.below hb12)
  have HB2 := aside (below_next HB1.out hb12)
  have hbge : w.heap.size ≤ b := Nat.le_trans HB0.out.size HN.out.bge
  obtain ⟨hln, hgood⟩ := checkP_good H1.out
  have HG := aside hgood
  clear hb2 hb12 hgood HO2 HE0
  go_wp2_with fail
  refine (values_any w2 _ _ b [patA, patD] _ HT2.out HG.out hln (by decide)).mono ?_
  rintro e w3 ⟨v3, Y3, rfl, hT3, hY3, hK3, hR3⟩
  rw [H3.out] at hR3
  obtain ⟨A3, c3, rfl, hl3, hC3⟩ := Kd.R_reads hR3
  have HB3 := aside (Below.trans HB2.out (Keep.below hK3 HB2.out.size (fun k e => by rw [e]; exact hbge)))
  have HY3 := aside (show ∀ k, Y3 k → w.heap.size ≤ k from fun k hk => by
    rcases hY3 k hk with e | e
    · rw [e]; exact hbge
    · have := HB2.out.size; omega)
  have HT3 := aside hT3
  have HC3 := aside hC3
  clear hT3 hY3 hK3 hR3 hC3 hl3
  go_wp2_with fail
  have hs3 : Below w3.heap.size w3 (w3.alloc (.cells #[.int .i64 0, .int .i64 2, .int .i64 0] 3)) := below_alloc (Below.refl _ _) _
  have hsame : sameInts [0, 2, 0] [0, 2, 0] = true := by decide
  have HSA := aside (same_any A3 (some ⟨w3.heap.size, 0, none⟩) c3 3 [0, 2, 0] [0, 2, 0] _ (Kd.C_below HC3.out hs3) (blk_C [0, 2, 0] (blk_new w3 _) (by decide)))
  rw [hsame] at HSA
  refine HSA.out.mono ?_
  rintro e w4 ⟨rfl, hb4⟩
  have hb34 := below_next hs3 hb4
  have HT4 := aside (HT3.out.below hb34)
  have HB4 := aside (below_next HB3.out hb34)
  clear hs3 hsame HSA hb4 hb34 HC3 HT3
  go_wp2_with fail
  refine (values_any w4 _ _ b [patA, patD] _ HT4.out HG.out hln (by decide)).mono ?_
  rintro e w5 ⟨v5, Y5, rfl, hT5, hY5, hK5, hR5⟩
  rw [H4.out] at hR5
  obtain ⟨A5, c5, rfl, -, -⟩ := Kd.R_reads hR5
  have HB5 := aside (Below.trans HB4.out (Keep.below hK5 HB4.out.size HY3.out))
  have HY5 := aside (show ∀ k, Y5 k → w.heap.size ≤ k from fun k hk => by
    rcases hY5 k hk with e | e
    · exact HY3.out k e
    · have := HB4.out.size; omega)
  have HT5 := aside hT5
  clear hT5 hY5 hK5 hR5
  go_wp2_with fail
  refine (nodes_any w5 _ _ b [patA, patD] HT5.out HG.out hln).mono ?_
  rintro e w6 ⟨rfl, hT6, hK6⟩
  rw [H5.out]
  have HB6 := aside (Below.trans HB5.out (Keep.below hK6 HB5.out.size HY5.out))
  clear hT6 hK6
  go_wp2_with (first
    | (go_at_call 19; refine (nodes_nil _).mono ?_; rintro e w' ⟨rfl, rfl⟩)
    | (go_at_call 18; refine (values_nil _ _).mono ?_; rintro e w' ⟨rfl, rfl⟩))
  go_ret
  exact ⟨rfl, HB6.out⟩
end Go.Proofs.Ytcignolfkocjeaa
