/- A font that is being read stands in memory. -/
import Derived.Test.YtllllmhekdcbiaaTfmRdDef
set_option linter.unusedVariables false
set_option linter.unusedSimpArgs false
namespace Go.Proofs.Ytllllmhekdcbiaa
open Go.RowKit Go.Proofs.YtllllmhekdcbiaaW.PrintWords

section
variable {α : Type} {d : Kd α} {e base : Nat} {ok : Nat → Prop} {W W' : World} {v : Value} {xs : List α}
theorem R_save {X : List Nat} {T : List TypeId} (h : d.R e W base ok v xs) (hs : Save X T base W W') (hT : ∀ q, q ∈ e :: d.E → q ∉ T) (hX : ∀ k, ok k → k ∉ X) : d.R e W' base ok v xs :=
  Kd.R_mono (Kd.R_move (Kd.R_bound h) (fun k hk => by
    obtain ⟨h1, h2, h3, q, hq, cells, hc⟩ := hk
    exact hs.block k h3 (hX k h1) (.inr ⟨cells, q, hc, hT q hq⟩))) (fun _ hk => hk.1)
theorem R_other {b t : Nat} {cs : Array Value} (h : d.R e W base ok v xs) (hg : W.grownBy W' (some b)) (hb : W.heap[b]? = some (.cells cs t (0, 0))) (ht : ∀ q, q ∈ e :: d.E → q ≠ t) : d.R e W' base ok v xs :=
  Kd.R_mono (Kd.R_grown (Kd.R_types h hb ht) hg (fun k hk => by simpa using hk.2)) (fun _ hk => hk.1)
end

/-- At block g stands a font that is being read. -/
def FontIs (W : World) (base g : Nat) (F : FontR) : Prop :=
  ∃ v3 v4 v5 v6 v7 v8 v9 v10, W.heap[g]? = some (.cells #[.int .i64 F.s, .int .i64 F.d, .int .i64 F.f, v3, v4, v5, v6, v7, v8, v9, v10] 26 (0, 0)) ∧ base ≤ g ∧
    kChar.R 40 W base (fun k => k ≠ g) v3 F.l3 ∧ (Kd.int .i64).R 3 W base (fun k => k ≠ g) v4 F.l4 ∧ (Kd.int .i64).R 3 W base (fun k => k ≠ g) v5 F.l5 ∧ (Kd.int .i64).R 3 W base (fun k => k ≠ g) v6 F.l6 ∧ (Kd.int .i64).R 3 W base (fun k => k ≠ g) v7 F.l7 ∧
    kStep.R 50 W base (fun k => k ≠ g) v8 F.l8 ∧ (Kd.int .i64).R 3 W base (fun k => k ≠ g) v9 F.l9 ∧ (Kd.int .i64).R 3 W base (fun k => k ≠ g) v10 F.l10
theorem FontIs.has {W : World} {base g : Nat} {F : FontR} (h : FontIs W base g F) : ∃ cs, W.heap[g]? = some (.cells cs 26 (0, 0)) := by
  obtain ⟨v3, v4, v5, v6, v7, v8, v9, v10, hb, _⟩ := h
  exact ⟨_, hb⟩
theorem FontIs.lt {W : World} {base g : Nat} {F : FontR} (h : FontIs W base g F) : g < W.heap.size := by
  obtain ⟨cs, h⟩ := h.has
  exact blk_lt h
theorem FontIs.le {W : World} {base g : Nat} {F : FontR} (h : FontIs W base g F) : base ≤ g := by
  obtain ⟨v3, v4, v5, v6, v7, v8, v9, v10, hb, h, _⟩ := h
  exact h
theorem FontIs.below {W W' : World} {base g : Nat} {F : FontR} (h : FontIs W base g F) (hB : Below W.heap.size W W') : FontIs W' base g F := by
  obtain ⟨v3, v4, v5, v6, v7, v8, v9, v10, hb, hle, r3, r4, r5, r6, r7, r8, r9, r10⟩ := h
  exact ⟨v3, v4, v5, v6, v7, v8, v9, v10, blk_below hb hB, hle, Kd.R_below r3 hB, Kd.R_below r4 hB, Kd.R_below r5 hB, Kd.R_below r6 hB, Kd.R_below r7 hB, Kd.R_below r8 hB, Kd.R_below r9 hB, Kd.R_below r10 hB⟩
/-- Another block has been written. -/
theorem FontIs.grown {W W' : World} {base g b t : Nat} {F : FontR} {cs : Array Value} (h : FontIs W base g F) (hg : W.grownBy W' (some b)) (hb : W.heap[b]? = some (.cells cs t (0, 0))) (hne : b ≠ g) (h1 : 40 ≠ t) (h2 : 3 ≠ t) (h3 : 50 ≠ t) : FontIs W' base g F := by
  obtain ⟨v3, v4, v5, v6, v7, v8, v9, v10, hb', hle, r3, r4, r5, r6, r7, r8, r9, r10⟩ := h
  have t3 : ∀ q, q ∈ 40 :: kChar.E → q ≠ t := by
    intro q hq; have : q = 40 := by simpa [kChar, Kd.iso, Kd.pair, Kd.int, Kd.scalar] using hq
    rw [this]; exact h1
  have t4 : ∀ q, q ∈ 3 :: (Kd.int .i64).E → q ≠ t := by
    intro q hq; have : q = 3 := by simpa [Kd.int, Kd.scalar] using hq
    rw [this]; exact h2
  have t8 : ∀ q, q ∈ 50 :: kStep.E → q ≠ t := by
    intro q hq; have : q = 50 := by simpa [kStep, Kd.iso, Kd.pair, Kd.int, Kd.scalar] using hq
    rw [this]; exact h3
  exact ⟨v3, v4, v5, v6, v7, v8, v9, v10, blk_grown hb' hg (by simpa using fun e => hne e.symm), hle, R_other r3 hg hb t3, R_other r4 hg hb t4, R_other r5 hg hb t4, R_other r6 hg hb t4, R_other r7 hg hb t4, R_other r8 hg hb t8, R_other r9 hg hb t4, R_other r10 hg hb t4⟩
/-- A row that was made since becomes one of the font's. -/
theorem R_into {W W1 : World} {base g : Nat} {α : Type} {d : Kd α} {e : Nat} {v : Value} {xs : List α} (h : d.R e W1 W.heap.size (fun _ => True) v xs) (hg : g < W.heap.size) (hb : base ≤ W.heap.size) : d.R e W1 base (fun k => k ≠ g) v xs :=
  Kd.R_lower (Kd.R_mono (Kd.R_bound h) (fun k hk => by have := hk.2.1; omega)) hb
-- PUTS
theorem FontIs.put4 {W : World} {base g : Nat} {F : FontR} {u : Value} {xs : List Int} (h : FontIs W base g F) (hR : (Kd.int .i64).R 3 W base (fun k => k ≠ g) u xs) : FontIs (W.setCell ⟨g, 4, none⟩ u) base g { F with l4 := xs } := by
  obtain ⟨v3, v4, v5, v6, v7, v8, v9, v10, hb', hle, r3, r4, r5, r6, r7, r8, r9, r10⟩ := h
  exact ⟨v3, u, v5, v6, v7, v8, v9, v10, blk_set hb' 4 u, hle, Kd.R_far (p := ⟨g, 4, none⟩) r3 (fun k hk => hk) u, Kd.R_far (p := ⟨g, 4, none⟩) hR (fun k hk => hk) u, Kd.R_far (p := ⟨g, 4, none⟩) r5 (fun k hk => hk) u, Kd.R_far (p := ⟨g, 4, none⟩) r6 (fun k hk => hk) u, Kd.R_far (p := ⟨g, 4, none⟩) r7 (fun k hk => hk) u, Kd.R_far (p := ⟨g, 4, none⟩) r8 (fun k hk => hk) u, Kd.R_far (p := ⟨g, 4, none⟩) r9 (fun k hk => hk) u, Kd.R_far (p := ⟨g, 4, none⟩) r10 (fun k hk => hk) u⟩
theorem FontIs.put5 {W : World} {base g : Nat} {F : FontR} {u : Value} {xs : List Int} (h : FontIs W base g F) (hR : (Kd.int .i64).R 3 W base (fun k => k ≠ g) u xs) : FontIs (W.setCell ⟨g, 5, none⟩ u) base g { F with l5 := xs } := by
  obtain ⟨v3, v4, v5, v6, v7, v8, v9, v10, hb', hle, r3, r4, r5, r6, r7, r8, r9, r10⟩ := h
  exact ⟨v3, v4, u, v6, v7, v8, v9, v10, blk_set hb' 5 u, hle, Kd.R_far (p := ⟨g, 5, none⟩) r3 (fun k hk => hk) u, Kd.R_far (p := ⟨g, 5, none⟩) r4 (fun k hk => hk) u, Kd.R_far (p := ⟨g, 5, none⟩) hR (fun k hk => hk) u, Kd.R_far (p := ⟨g, 5, none⟩) r6 (fun k hk => hk) u, Kd.R_far (p := ⟨g, 5, none⟩) r7 (fun k hk => hk) u, Kd.R_far (p := ⟨g, 5, none⟩) r8 (fun k hk => hk) u, Kd.R_far (p := ⟨g, 5, none⟩) r9 (fun k hk => hk) u, Kd.R_far (p := ⟨g, 5, none⟩) r10 (fun k hk => hk) u⟩
theorem FontIs.put6 {W : World} {base g : Nat} {F : FontR} {u : Value} {xs : List Int} (h : FontIs W base g F) (hR : (Kd.int .i64).R 3 W base (fun k => k ≠ g) u xs) : FontIs (W.setCell ⟨g, 6, none⟩ u) base g { F with l6 := xs } := by
  obtain ⟨v3, v4, v5, v6, v7, v8, v9, v10, hb', hle, r3, r4, r5, r6, r7, r8, r9, r10⟩ := h
  exact ⟨v3, v4, v5, u, v7, v8, v9, v10, blk_set hb' 6 u, hle, Kd.R_far (p := ⟨g, 6, none⟩) r3 (fun k hk => hk) u, Kd.R_far (p := ⟨g, 6, none⟩) r4 (fun k hk => hk) u, Kd.R_far (p := ⟨g, 6, none⟩) r5 (fun k hk => hk) u, Kd.R_far (p := ⟨g, 6, none⟩) hR (fun k hk => hk) u, Kd.R_far (p := ⟨g, 6, none⟩) r7 (fun k hk => hk) u, Kd.R_far (p := ⟨g, 6, none⟩) r8 (fun k hk => hk) u, Kd.R_far (p := ⟨g, 6, none⟩) r9 (fun k hk => hk) u, Kd.R_far (p := ⟨g, 6, none⟩) r10 (fun k hk => hk) u⟩
theorem FontIs.put7 {W : World} {base g : Nat} {F : FontR} {u : Value} {xs : List Int} (h : FontIs W base g F) (hR : (Kd.int .i64).R 3 W base (fun k => k ≠ g) u xs) : FontIs (W.setCell ⟨g, 7, none⟩ u) base g { F with l7 := xs } := by
  obtain ⟨v3, v4, v5, v6, v7, v8, v9, v10, hb', hle, r3, r4, r5, r6, r7, r8, r9, r10⟩ := h
  exact ⟨v3, v4, v5, v6, u, v8, v9, v10, blk_set hb' 7 u, hle, Kd.R_far (p := ⟨g, 7, none⟩) r3 (fun k hk => hk) u, Kd.R_far (p := ⟨g, 7, none⟩) r4 (fun k hk => hk) u, Kd.R_far (p := ⟨g, 7, none⟩) r5 (fun k hk => hk) u, Kd.R_far (p := ⟨g, 7, none⟩) r6 (fun k hk => hk) u, Kd.R_far (p := ⟨g, 7, none⟩) hR (fun k hk => hk) u, Kd.R_far (p := ⟨g, 7, none⟩) r8 (fun k hk => hk) u, Kd.R_far (p := ⟨g, 7, none⟩) r9 (fun k hk => hk) u, Kd.R_far (p := ⟨g, 7, none⟩) r10 (fun k hk => hk) u⟩
theorem FontIs.put9 {W : World} {base g : Nat} {F : FontR} {u : Value} {xs : List Int} (h : FontIs W base g F) (hR : (Kd.int .i64).R 3 W base (fun k => k ≠ g) u xs) : FontIs (W.setCell ⟨g, 9, none⟩ u) base g { F with l9 := xs } := by
  obtain ⟨v3, v4, v5, v6, v7, v8, v9, v10, hb', hle, r3, r4, r5, r6, r7, r8, r9, r10⟩ := h
  exact ⟨v3, v4, v5, v6, v7, v8, u, v10, blk_set hb' 9 u, hle, Kd.R_far (p := ⟨g, 9, none⟩) r3 (fun k hk => hk) u, Kd.R_far (p := ⟨g, 9, none⟩) r4 (fun k hk => hk) u, Kd.R_far (p := ⟨g, 9, none⟩) r5 (fun k hk => hk) u, Kd.R_far (p := ⟨g, 9, none⟩) r6 (fun k hk => hk) u, Kd.R_far (p := ⟨g, 9, none⟩) r7 (fun k hk => hk) u, Kd.R_far (p := ⟨g, 9, none⟩) r8 (fun k hk => hk) u, Kd.R_far (p := ⟨g, 9, none⟩) hR (fun k hk => hk) u, Kd.R_far (p := ⟨g, 9, none⟩) r10 (fun k hk => hk) u⟩
theorem FontIs.put10 {W : World} {base g : Nat} {F : FontR} {u : Value} {xs : List Int} (h : FontIs W base g F) (hR : (Kd.int .i64).R 3 W base (fun k => k ≠ g) u xs) : FontIs (W.setCell ⟨g, 10, none⟩ u) base g { F with l10 := xs } := by
  obtain ⟨v3, v4, v5, v6, v7, v8, v9, v10, hb', hle, r3, r4, r5, r6, r7, r8, r9, r10⟩ := h
  exact ⟨v3, v4, v5, v6, v7, v8, v9, u, blk_set hb' 10 u, hle, Kd.R_far (p := ⟨g, 10, none⟩) r3 (fun k hk => hk) u, Kd.R_far (p := ⟨g, 10, none⟩) r4 (fun k hk => hk) u, Kd.R_far (p := ⟨g, 10, none⟩) r5 (fun k hk => hk) u, Kd.R_far (p := ⟨g, 10, none⟩) r6 (fun k hk => hk) u, Kd.R_far (p := ⟨g, 10, none⟩) r7 (fun k hk => hk) u, Kd.R_far (p := ⟨g, 10, none⟩) r8 (fun k hk => hk) u, Kd.R_far (p := ⟨g, 10, none⟩) r9 (fun k hk => hk) u, Kd.R_far (p := ⟨g, 10, none⟩) hR (fun k hk => hk) u⟩
theorem FontIs.put_s {W : World} {base g : Nat} {F : FontR} {n : Int} (h : FontIs W base g F) : FontIs (W.setCell ⟨g, 0, none⟩ (.int .i64 n)) base g { F with s := n } := by
  obtain ⟨v3, v4, v5, v6, v7, v8, v9, v10, hb', hle, r3, r4, r5, r6, r7, r8, r9, r10⟩ := h
  exact ⟨v3, v4, v5, v6, v7, v8, v9, v10, blk_set hb' 0 _, hle, Kd.R_far (p := ⟨g, 0, none⟩) r3 (fun k hk => hk) _, Kd.R_far (p := ⟨g, 0, none⟩) r4 (fun k hk => hk) _, Kd.R_far (p := ⟨g, 0, none⟩) r5 (fun k hk => hk) _, Kd.R_far (p := ⟨g, 0, none⟩) r6 (fun k hk => hk) _, Kd.R_far (p := ⟨g, 0, none⟩) r7 (fun k hk => hk) _, Kd.R_far (p := ⟨g, 0, none⟩) r8 (fun k hk => hk) _, Kd.R_far (p := ⟨g, 0, none⟩) r9 (fun k hk => hk) _, Kd.R_far (p := ⟨g, 0, none⟩) r10 (fun k hk => hk) _⟩
theorem FontIs.put_d {W : World} {base g : Nat} {F : FontR} {n : Int} (h : FontIs W base g F) : FontIs (W.setCell ⟨g, 1, none⟩ (.int .i64 n)) base g { F with d := n } := by
  obtain ⟨v3, v4, v5, v6, v7, v8, v9, v10, hb', hle, r3, r4, r5, r6, r7, r8, r9, r10⟩ := h
  exact ⟨v3, v4, v5, v6, v7, v8, v9, v10, blk_set hb' 1 _, hle, Kd.R_far (p := ⟨g, 1, none⟩) r3 (fun k hk => hk) _, Kd.R_far (p := ⟨g, 1, none⟩) r4 (fun k hk => hk) _, Kd.R_far (p := ⟨g, 1, none⟩) r5 (fun k hk => hk) _, Kd.R_far (p := ⟨g, 1, none⟩) r6 (fun k hk => hk) _, Kd.R_far (p := ⟨g, 1, none⟩) r7 (fun k hk => hk) _, Kd.R_far (p := ⟨g, 1, none⟩) r8 (fun k hk => hk) _, Kd.R_far (p := ⟨g, 1, none⟩) r9 (fun k hk => hk) _, Kd.R_far (p := ⟨g, 1, none⟩) r10 (fun k hk => hk) _⟩
-- PUTS END

theorem quads_length : ∀ l : List Int, 4 * (quads l).length ≤ l.length
  | [] => by simp [quads]
  | [_] => by simp [quads]
  | [_, _] => by simp [quads]
  | [_, _, _] => by simp [quads]
  | a :: b :: c :: d :: l => by
    have := quads_length l
    simp only [quads, List.length_cons]
    omega
theorem chars_append (d : List Int) (x0 x1 x2 x3 : Int) (h : 4 ∣ d.length) : chars (d ++ [x0, x1, x2, x3]) = chars d ++ [rdChar x0 x1 x2 x3] := by
  simp [chars, quads_append d x0 x1 x2 x3 h]
theorem steps_append (d : List Int) (x0 x1 x2 x3 : Int) (h : 4 ∣ d.length) : steps (d ++ [x0, x1, x2, x3]) = steps d ++ [rdStep x0 x1 x2 x3] := by
  simp [steps, quads_append d x0 x1 x2 x3 h]

set_option maxHeartbeats 1000000 in
theorem each_chars (n base b g : Nat) (l : List Int) (bad : Bool) (F : FontR) (w : World) (hn : n ≤ 100000) (hI : InIs w base b l bad) (hby : Bytes l) (hl : l.length ≤ 1000000) (hbase : base ≤ w.heap.size) (hF : FontIs w base g F) (h0 : F.l3 = []) (hne : b ≠ g) :
    Calls Try.prog 18 #[.pointer (some ⟨b, 0, none⟩), .int .i64 n, .func (.func 19) #[] #[.pointer (some ⟨g, 0, none⟩)]] w fun e w' => e = .returned (.tuple #[]) ∧ FontIs w' base g { F with l3 := chars (tkEach n l bad).1 } ∧ InIs w' base b (tkEach n l bad).2.1 (tkEach n l bad).2.2 ∧ Save [b, g] [40] base w w' := by
  have hx := each_any 19 #[.pointer (some ⟨g, 0, none⟩)] (enters_of Try.func19 (by kernel_rfl) rfl) (fun d W => 4 ∣ d.length ∧ FontIs W base g { F with l3 := chars d }) [40] (by decide) (by decide) g n base b l bad w hn hI hby hl hbase
    ⟨⟨0, rfl⟩, by rw [show chars [] = F.l3 from h0.symm]; exact hF⟩ hF.le hne
    (fun d W i u hS ⟨cs, hcs⟩ => ⟨hS.1, hS.2.grown (grown_set (W := W) (p := ⟨b, i, none⟩) (Below.refl _ _) rfl u) hcs hne (by decide) (by decide) (by decide)⟩)
    (fun d W hS => by obtain ⟨cs, h⟩ := hS.2.has; exact ⟨cs, _, h, by decide⟩)
    (fun d x A c W hS hd hx hbx hc hsrc hA => by
      obtain ⟨h4, v3, v4, v5, v6, v7, v8, v9, v10, hb', hle, r3, r4, r5, r6, r7, r8, r9, r10⟩ := hS
      match x, hx with
      | [x0, x1, x2, x3], _ =>
        refine (rdchar_any base g _ v3 (chars d) x0 x1 x2 x3 A c W hb' rfl r3 hle (by have := quads_length d; simp only [chars, List.length_map]; omega) hbx hc hsrc hA).mono ?_
        rintro e w' ⟨rfl, ⟨v', k1, k2⟩, hs⟩
        have hX : ∀ k, k ≠ g → k ∉ [g] := fun k hk => by simpa using hk
        rw [← chars_append d x0 x1 x2 x3 h4] at k2
        exact ⟨rfl, ⟨by simp; omega, v', v4, v5, v6, v7, v8, v9, v10, k1, hle, k2, R_save r4 hs (by decide) hX, R_save r5 hs (by decide) hX, R_save r6 hs (by decide) hX, R_save r7 hs (by decide) hX, R_save r8 hs (by decide) hX, R_save r9 hs (by decide) hX, R_save r10 hs (by decide) hX⟩, hs⟩)
  refine hx.mono ?_
  rintro e w' ⟨rfl, hS, hI', hs⟩
  exact ⟨rfl, hS.2, hI', hs⟩

set_option maxHeartbeats 1000000 in
theorem each_steps (n base b g : Nat) (l : List Int) (bad : Bool) (F : FontR) (w : World) (hn : n ≤ 100000) (hI : InIs w base b l bad) (hby : Bytes l) (hl : l.length ≤ 1000000) (hbase : base ≤ w.heap.size) (hF : FontIs w base g F) (h0 : F.l8 = []) (hne : b ≠ g) :
    Calls Try.prog 18 #[.pointer (some ⟨b, 0, none⟩), .int .i64 n, .func (.func 21) #[] #[.pointer (some ⟨g, 0, none⟩)]] w fun e w' => e = .returned (.tuple #[]) ∧ FontIs w' base g { F with l8 := steps (tkEach n l bad).1 } ∧ InIs w' base b (tkEach n l bad).2.1 (tkEach n l bad).2.2 ∧ Save [b, g] [50] base w w' := by
  have hx := each_any 21 #[.pointer (some ⟨g, 0, none⟩)] (enters_of Try.func21 (by kernel_rfl) rfl) (fun d W => 4 ∣ d.length ∧ FontIs W base g { F with l8 := steps d }) [50] (by decide) (by decide) g n base b l bad w hn hI hby hl hbase
    ⟨⟨0, rfl⟩, by rw [show steps [] = F.l8 from h0.symm]; exact hF⟩ hF.le hne
    (fun d W i u hS ⟨cs, hcs⟩ => ⟨hS.1, hS.2.grown (grown_set (W := W) (p := ⟨b, i, none⟩) (Below.refl _ _) rfl u) hcs hne (by decide) (by decide) (by decide)⟩)
    (fun d W hS => by obtain ⟨cs, h⟩ := hS.2.has; exact ⟨cs, _, h, by decide⟩)
    (fun d x A c W hS hd hx hbx hc hsrc hA => by
      obtain ⟨h4, v3, v4, v5, v6, v7, v8, v9, v10, hb', hle, r3, r4, r5, r6, r7, r8, r9, r10⟩ := hS
      match x, hx with
      | [x0, x1, x2, x3], _ =>
        refine (rdstep_any base g _ v8 (steps d) x0 x1 x2 x3 A c W hb' rfl r8 hle (by have := quads_length d; simp only [steps, List.length_map]; omega) hbx hc hsrc hA).mono ?_
        rintro e w' ⟨rfl, ⟨v', k1, k2⟩, hs⟩
        have hX : ∀ k, k ≠ g → k ∉ [g] := fun k hk => by simpa using hk
        rw [← steps_append d x0 x1 x2 x3 h4] at k2
        exact ⟨rfl, ⟨by simp; omega, v3, v4, v5, v6, v7, v', v9, v10, k1, hle, R_save r3 hs (by decide) hX, R_save r4 hs (by decide) hX, R_save r5 hs (by decide) hX, R_save r6 hs (by decide) hX, R_save r7 hs (by decide) hX, k2, R_save r9 hs (by decide) hX, R_save r10 hs (by decide) hX⟩, hs⟩)
  refine hx.mono ?_
  rintro e w' ⟨rfl, hS, hI', hs⟩
  exact ⟨rfl, hS.2, hI', hs⟩
end Go.Proofs.Ytllllmhekdcbiaa
