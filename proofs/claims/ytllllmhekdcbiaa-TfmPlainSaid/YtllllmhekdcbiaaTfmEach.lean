/- tfm's bytes that are taken, walked: so many of four bytes, each handed to a function. -/
import Derived.Test.YtllllmhekdcbiaaTfmIn2
set_option linter.unusedVariables false
set_option linter.unusedSimpArgs false
namespace Go.Proofs.Ytllllmhekdcbiaa
open Go.RowKit Go.Proofs.YtllllmhekdcbiaaW.PrintWords

/-- So many of four bytes taken: they, what is left, and whether there were too few. -/
def tkEach : Nat → List Int → Bool → List Int × List Int × Bool
  | 0, l, bad => ([], l, bad)
  | k + 1, l, bad => if l.length < 4 then ([], l, true) else (l.take 4 ++ (tkEach k (l.drop 4) bad).1, (tkEach k (l.drop 4) bad).2)
theorem tkEach_step {T : List Int × List Int × Bool} {n kk : Nat} {xs lk : List Int} {bad : Bool} (hlt : kk < n) (h : T = (xs ++ (tkEach (n - kk) lk bad).1, (tkEach (n - kk) lk bad).2)) :
    (lk.length < 4 → T = (xs, lk, true)) ∧ (¬ lk.length < 4 → T = ((xs ++ lk.take 4) ++ (tkEach (n - (kk + 1)) (lk.drop 4) bad).1, (tkEach (n - (kk + 1)) (lk.drop 4) bad).2)) := by
  obtain ⟨d, hd⟩ : ∃ d, n - kk = d + 1 := ⟨n - kk - 1, by omega⟩
  rw [show n - (kk + 1) = d by omega, h, hd]
  refine ⟨fun hs => ?_, fun hs => ?_⟩
  · simp [tkEach, hs]
  · simp [tkEach, hs]

/-- Some blocks, those of some types made since base, and new ones, may be written; all else stays. -/
structure Save (X : List Nat) (T : List TypeId) (base : Nat) (w W : World) : Prop where
  os : W.os = w.os
  tape : W.tape = w.tape
  output : W.output = w.output
  size : w.heap.size ≤ W.heap.size
  block : ∀ k, k < w.heap.size → k ∉ X → (k < base ∨ ∃ cs t, w.heap[k]? = some (.cells cs t (0, 0)) ∧ t ∉ T) → W.heap[k]? = w.heap[k]?
theorem Save.refl (X : List Nat) (T : List TypeId) (base : Nat) (w : World) : Save X T base w w := ⟨rfl, rfl, rfl, Nat.le_refl _, fun _ _ _ _ => rfl⟩
theorem Save.trans {X : List Nat} {T : List TypeId} {base : Nat} {w W W' : World} (h : Save X T base w W) (k : Save X T base W W') : Save X T base w W' :=
  ⟨k.os.trans h.os, k.tape.trans h.tape, k.output.trans h.output, Nat.le_trans h.size k.size, fun i hi h1 h2 => by
    have e := h.block i hi h1 h2
    refine (k.block i (Nat.lt_of_lt_of_le hi h.size) h1 ?_).trans e
    rcases h2 with h2 | ⟨cs, t, h2, h3⟩
    · exact .inl h2
    · exact .inr ⟨cs, t, e.trans h2, h3⟩⟩
theorem Save.mono {X X' : List Nat} {T T' : List TypeId} {base : Nat} {w W : World} (h : Save X T base w W) (hX : ∀ k, k ∈ X → k ∈ X') (hT : ∀ k, k ∈ T → k ∈ T') : Save X' T' base w W :=
  ⟨h.os, h.tape, h.output, h.size, fun k hk h1 h2 => h.block k hk (fun e => h1 (hX k e)) (by
    rcases h2 with h2 | ⟨cs, t, h2, h3⟩
    · exact .inl h2
    · exact .inr ⟨cs, t, h2, fun e => h3 (hT t e)⟩)⟩
theorem Save.of_grown {X : List Nat} {T : List TypeId} {base b : Nat} {w W : World} (h : w.grownBy W (some b)) (hb : b ∈ X) : Save X T base w W :=
  ⟨h.os, h.tape, h.output, h.size, fun k hk h1 _ => h.block k hk (by rintro e; cases e; exact h1 hb)⟩
theorem Save.of_below {X : List Nat} {T : List TypeId} {base : Nat} {w W : World} (h : Below w.heap.size w W) : Save X T base w W :=
  ⟨h.os, h.tape, h.output, h.size, fun k hk _ _ => h.block k hk⟩
/-- A row of a type of these, made since base, has been written. -/
theorem Save.of_row {X : List Nat} {T : List TypeId} {base e : Nat} {w W : World} {v : Value} (h : w.grownBy W v.ownBlock) (hb : ∀ k, v.ownBlock = some k → base ≤ k) (hty : ∀ k, v.ownBlock = some k → ∃ cs, w.heap[k]? = some (.cells cs e (0, 0))) (he : e ∈ T) : Save X T base w W :=
  ⟨h.os, h.tape, h.output, h.size, fun k hk _ h2 => h.block k hk (fun e' => by
    rcases h2 with h2 | ⟨cs, t, h2, h3⟩
    · have := hb k e'.symm; omega
    · obtain ⟨cs', h4⟩ := hty k e'.symm
      rw [h2] at h4; injection h4 with h4; injection h4 with _ h4; subst h4; exact h3 he)⟩
theorem Save.at {X : List Nat} {T : List TypeId} {base k : Nat} {w W : World} {cs : Array Value} {t : TypeId} (h : Save X T base w W) (hk : w.heap[k]? = some (.cells cs t (0, 0))) (hX : k ∉ X) (ht : t ∉ T) : W.heap[k]? = some (.cells cs t (0, 0)) :=
  (h.block k (blk_lt hk) hX (.inr ⟨cs, t, hk, ht⟩)).trans hk
theorem Save.below {X : List Nat} {T : List TypeId} {base : Nat} {w W W' : World} (h : Below base w W) (hs : base ≤ W.heap.size) (k : Save X T base W W') (hX : ∀ q, q ∈ X → base ≤ q) : Below base w W' :=
  ⟨k.os.trans h.os, k.tape.trans h.tape, k.output.trans h.output, Nat.le_trans h.size k.size, fun i hi => (k.block i (by omega) (fun e => by have := hX i e; omega) (.inl hi)).trans (h.block i hi)⟩
theorem Src.save {X : List Nat} {T : List TypeId} {base : Nat} {w W : World} {A : Option Addr} {l : List Int} (h : Src w base A l) (hs : Save X T base w W) (hX : ∀ q, q ∈ X → base ≤ q ∧ ∃ cs t, w.heap[q]? = some (.cells cs t (0, 0)) ∧ t ≠ 5) (hT : 5 ∉ T) : Src W base A l :=
  h.keep fun k hk hor => hs.block k hk (fun e => by
    obtain ⟨h1, cs, t, h2, h3⟩ := hX k e
    rcases hor with h | ⟨cs', h⟩
    · omega
    · rw [h2] at h; injection h with h; injection h with _ h; exact h3 h) (by
    rcases hor with h | ⟨cs', h⟩
    · exact .inl h
    · exact .inr ⟨cs', _, h, hT⟩)
theorem InIs.save {X : List Nat} {T : List TypeId} {base b : Nat} {w W : World} {l : List Int} {bad : Bool} (h : InIs w base b l bad) (hs : Save X T base w W) (hX : ∀ q, q ∈ X → base ≤ q ∧ ∃ cs t, w.heap[q]? = some (.cells cs t (0, 0)) ∧ t ≠ 5) (hT : 5 ∉ T) (hb : b ∉ X) (hi : 53 ∉ T) : InIs W base b l bad := by
  obtain ⟨A, c, h1, h2, h3, h4⟩ := h
  exact ⟨A, c, hs.at h1 hb hi, h2, h3, h4.save hs hX hT⟩

set_option maxHeartbeats 4000000 in
theorem each_any (f : Nat) (lb : Array Value) (ef : ∀ args w, (callFunc f args).run Try.prog w = .ok (.enter f args) w) (St : List Int → World → Prop) (T : List TypeId) (hT8 : 5 ∉ T) (hTi : 53 ∉ T) (gb n base b : Nat) (l : List Int) (bad : Bool) (w : World) (hn : n ≤ 100000)
    (hI : InIs w base b l bad) (hby : Bytes l) (hl : l.length ≤ 1000000) (hbase : base ≤ w.heap.size) (hS : St [] w) (hle : base ≤ gb) (hne : b ≠ gb)
    (hkeep : ∀ d W i u, St d W → (∃ cs, W.heap[b]? = some (.cells cs 53 (0, 0))) → St d (W.setCell ⟨b, i, none⟩ u))
    (hfont : ∀ d W, St d W → ∃ cs t, W.heap[gb]? = some (.cells cs t (0, 0)) ∧ t ≠ 5)
    (hcall : ∀ d x A c W, St d W → d.length ≤ 400000 → x.length = 4 → Bytes x → 4 ≤ c → Src W base A x → (∀ ad, A = some ad → ad.block ≠ gb) → Calls Try.prog f (#[.slice A 4 c] ++ lb) W fun e w' => e = .returned (.tuple #[]) ∧ St (d ++ x) w' ∧ Save [gb] T base W w') :
    Calls Try.prog 18 #[.pointer (some ⟨b, 0, none⟩), .int .i64 n, .func (.func f) #[] lb] w fun e w' => e = .returned (.tuple #[]) ∧ St (tkEach n l bad).1 w' ∧ InIs w' base b (tkEach n l bad).2.1 (tkEach n l bad).2.2 ∧ Save [b, gb] T base w w' := by
  have HI := aside hI
  have HBY := aside hby
  have HS := aside hS
  have HC := aside hcall
  have HK := aside hkeep
  have HF := aside hfont
  clear hI hby hS hcall hkeep hfont
  go_enter Try.func18, Try.ntmps18
  go_wp2
  go_loopg [7] n (fun gg s7 wr => ∃ (kk : Nat) (xs lk : List Int) (bk : Bool), kk ≤ n ∧ n - kk ≤ gg ∧ s7 = .int .i64 kk ∧ xs.length = 4 * kk ∧ lk.length ≤ 1000000 ∧ Aside (tkEach n l bad = (xs ++ (tkEach (n - kk) lk bk).1, (tkEach (n - kk) lk bk).2)) ∧ Aside (Bytes lk) ∧ Aside (InIs wr base b lk bk) ∧ Aside (St xs wr) ∧ Aside (Save [b, gb] T base w wr))
  case atStart => exact ⟨0, [], l, bad, by omega, by omega, rfl, rfl, hl, by simp [Aside], HBY, HI, HS, Save.refl _ _ _ _⟩
  case round =>
    obtain ⟨kk, xs, lk, bk, hkk, hg, rfl, hxl, hll, HT, HBk, HIr, HSr, HG⟩ := hrel
    by_cases hlt : kk < n
    · have hltz : (kk : Int) < (n : Int) := by omega
      obtain ⟨A, c, hb, hbb, hc, hs⟩ := HIr.out
      obtain ⟨g0, g1, g2, g3⟩ := inis_cells hb
      have HB := aside hb
      have HSS := aside hs
      have hbw : b < wr.heap.size := blk_lt hb
      have hst := tkEach_step hlt HT.out
      by_cases hsh : lk.length < 4
      · have HE := aside (hst.1 hsh)
        have hshz : (lk.length : Int) < 4 := by omega
        clear hb hs hst HT
        go_wp2
        refine bodyPost_ret (results_none rfl _ _ _) rfl ?_
        have h := inis_bad HIr.out
        rw [HE.out]
        exact ⟨rfl, HK.out _ _ _ _ HSr.out ⟨_, HB.out⟩, h.1, HG.out.trans (Save.of_grown h.2 (by simp))⟩
      · have HE := aside (hst.2 hsh)
        have hshz : ¬ (lk.length : Int) < 4 := by omega
        clear hb hs hst HT
        have hx4 : (lk.take 4).length = 4 := by rw [List.length_take]; omega
        have hsrc := HSS.out.take (k := 4) (by omega)
        have hcall := HC.out xs (lk.take 4) A c wr HSr.out (by omega) hx4 (HBk.out.take 4) (by omega) hsrc (by
          rintro ad rfl
          obtain ⟨cs, t, hcs, ht⟩ := HF.out _ _ HSr.out
          rcases hsrc.2 ad rfl (by omega) with h | ⟨cs', h⟩
          · omega
          · rintro rfl
            rw [hcs] at h; injection h with h; injection h with _ h; exact ht h)
        have HCL := aside hcall
        obtain ⟨ad, hAd, -⟩ := int_cells' HSS.out.1 (by omega)
        subst hAd
        have hlen4 : (lk.drop 4).length = lk.length - 4 := List.length_drop
        have hd := HSS.out.drop (k := 4) (by omega) hc
        have hl4 : (lk.drop 4).length ≤ 1000000 := by omega
        clear hcall hsrc
        by_cases hcz : c = 4
        · subst hcz
          rw [if_pos rfl] at hd
          have HD := aside hd
          clear hd
          go_wp2_with (go_at_fn f; refine HCL.out.mono ?_; rintro e w1 ⟨rfl, hS1, hG1⟩; have hb1 := hG1.at HB.out (by simpa using hne) hTi; have HB1 := aside hb1; have k0 := (inis_cells hb1).1; have k2 := (inis_cells hb1).2.2.1; clear hb1)
          go_roundg (n - (kk + 1))
          case measure => omega
          case rel =>
            obtain ⟨cs, t, hcs, ht⟩ := HF.out _ _ HSr.out
            have hs1 := HD.out.save hG1 (by simp only [List.mem_singleton]; rintro q rfl; exact ⟨hle, _, _, hcs, ht⟩) hT8
            have hgs := fun u => grown_set (W := w1) (p := ⟨b, 0, none⟩) (Below.refl w1.heap.size w1) rfl u
            exact ⟨kk + 1, xs ++ lk.take 4, lk.drop 4, bk, by omega, by omega, by go_num, by simp [hxl]; omega, hl4, HE.out, HBk.out.drop 4, inis_put HB1.out hbb (by omega) (by omega) hs1, HK.out _ _ _ _ hS1 ⟨_, HB1.out⟩, (HG.out.trans (hG1.mono (by simp) (fun _ h => h))).trans (Save.of_grown (hgs _) (by simp))⟩
        · rw [if_neg hcz] at hd
          have HD := aside hd
          clear hd
          go_wp2_with (go_at_fn f; refine HCL.out.mono ?_; rintro e w1 ⟨rfl, hS1, hG1⟩; have hb1 := hG1.at HB.out (by simpa using hne) hTi; have HB1 := aside hb1; have k0 := (inis_cells hb1).1; have k2 := (inis_cells hb1).2.2.1; clear hb1)
          go_roundg (n - (kk + 1))
          case measure => omega
          case rel =>
            obtain ⟨cs, t, hcs, ht⟩ := HF.out _ _ HSr.out
            have hs1 := HD.out.save hG1 (by simp only [List.mem_singleton]; rintro q rfl; exact ⟨hle, _, _, hcs, ht⟩) hT8
            have hgs := fun u => grown_set (W := w1) (p := ⟨b, 0, none⟩) (Below.refl w1.heap.size w1) rfl u
            exact ⟨kk + 1, xs ++ lk.take 4, lk.drop 4, bk, by omega, by omega, by go_num, by simp [hxl]; omega, hl4, HE.out, HBk.out.drop 4, inis_put HB1.out hbb (by omega) (by omega) hs1, HK.out _ _ _ _ hS1 ⟨_, HB1.out⟩, (HG.out.trans (hG1.mono (by simp) (fun _ h => h))).trans (Save.of_grown (hgs _) (by simp))⟩
    · obtain rfl : kk = n := by omega
      have hltz : ¬ (kk : Int) < (kk : Int) := by omega
      have hE := HT.out
      rw [Nat.sub_self] at hE
      simp only [tkEach, List.append_nil] at hE
      have HE := aside hE
      clear hE HT
      go_wp2
      go_end0
      rw [HE.out]
      exact ⟨rfl, HSr.out, HIr.out, HG.out⟩
end Go.Proofs.Ytllllmhekdcbiaa
