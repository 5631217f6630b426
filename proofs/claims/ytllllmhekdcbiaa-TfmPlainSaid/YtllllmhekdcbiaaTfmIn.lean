/- tfm's bytes that are taken, walked. -/
import Derived.Test.YtllllmhekdcbiaaPack2
set_option linter.unusedVariables false
set_option linter.unusedSimpArgs false
namespace Go.Proofs.Ytllllmhekdcbiaa
open Go.RowKit Go.Proofs.YtllllmhekdcbiaaW.PrintWords

/-- A number of four bytes as a fix. -/
def sgn (n : Int) : Int := if n < 2147483648 then n else n - 4294967296

theorem Bytes.drop {l : List Int} (h : Bytes l) (k : Nat) : Bytes (l.drop k) := fun j => by
  have := h (k + j)
  simpa [List.getD_eq_getElem?_getD, List.getElem?_drop] using this
theorem Bytes.take {l : List Int} (h : Bytes l) (k : Nat) : Bytes (l.take k) := fun j => by
  by_cases hj : j < k
  · have := h j
    simpa [List.getD_eq_getElem?_getD, List.getElem?_take, hj] using this
  · simp [List.getD_eq_getElem?_getD, List.getElem?_take, hj]

set_option maxHeartbeats 1000000 in
theorem takefix_short (A : Option Addr) (c : Nat) (l : List Int) (w : World) (hl : l.length < 4) :
    Calls Try.prog 34 #[.slice A l.length c] w fun e w' => e = .returned (.tuple #[.int .i64 0, .slice none 0 0, .int .i64 60]) ∧ w' = w := by
  go_enter Try.func34, Try.ntmps34
  go_wp2_with (first
    | (go_at_call 43; refine (ways_any _).mono ?_; rintro e w' ⟨rfl, hw⟩; obtain rfl := hw.symm)
    | (go_at_call 47; refine (in_any 0 _ (by omega) (by omega)).mono ?_; rintro e w' ⟨rfl, hw⟩; obtain rfl := hw.symm)
    | (go_at_call 44; refine (take_short 4 (.inr rfl) A c l _ hl).mono ?_; rintro e w' ⟨rfl, hw⟩; obtain rfl := hw.symm))
  go_ret3
  exact ⟨rfl, rfl⟩

set_option maxHeartbeats 1000000 in
theorem takefix_any (A : Option Addr) (c : Nat) (l : List Int) (w : World) (hC : (Kd.int .u8).C w A l.length l) (hc : l.length ≤ c) (hby : Bytes l) (hl : l.length ≤ 1000000) (h1 : 4 ≤ l.length) :
    Calls Try.prog 34 #[.slice A l.length c] w fun e w' => ∃ v, e = .returned (.tuple #[.int .i64 (sgn (unbe l 4)), v, .int .i64 0]) ∧ (Kd.int .u8).R 5 w' w.heap.size (fun _ => True) v (l.drop 4) ∧ Below w.heap.size w w' := by
  have HT := aside (take_any 4 (.inr rfl) A c l w hC hc hby hl h1)
  have hr := unbe_range hby 4
  clear hC hby
  have hr1 : 0 ≤ unbe l 4 := hr.1
  have hr2 : unbe l 4 < 4294967296 := by have := hr.2; simpa using this
  clear hr
  have HI := fun W => in_any (unbe l 4) W hr1 hr2
  have HS := aside (show sgn (unbe l 4) = if unbe l 4 < 2147483648 then unbe l 4 else unbe l 4 - 4294967296 from rfl)
  rw [← HS.out] at HI
  generalize sgn (unbe l 4) = r at HI ⊢
  generalize unbe l 4 = u at HI HT
  have HIA := aside HI
  clear HI HS hr1 hr2
  go_enter Try.func34, Try.ntmps34
  go_wp2_with (first
    | (go_at_call 43; refine (ways_any _).mono ?_; rintro e w' ⟨rfl, hw⟩; obtain rfl := hw.symm)
    | (go_at_call 47; refine (HIA.out _).mono ?_; rintro e w' ⟨rfl, hw⟩; obtain rfl := hw.symm)
    | (go_at_call 44; refine HT.out.mono ?_; rintro e w1 ⟨v, rfl, hR, hB⟩))
  go_ret3
  exact ⟨_, rfl, hR, hB⟩

/-- Bytes that are read: in memory from before base, or in a row of bytes. -/
def Src (W : World) (base : Nat) (A : Option Addr) (l : List Int) : Prop :=
  (Kd.int .u8).C W A l.length l ∧ ∀ ad, A = some ad → 0 < l.length → ad.block < base ∨ ∃ cs, W.heap[ad.block]? = some (.cells cs 5 (0, 0))
theorem Src.keep {W W' : World} {base : Nat} {A : Option Addr} {l : List Int} (h : Src W base A l) (hk : ∀ k, k < W.heap.size → (k < base ∨ ∃ cs, W.heap[k]? = some (.cells cs 5 (0, 0))) → W'.heap[k]? = W.heap[k]?) : Src W' base A l := by
  obtain ⟨hC, hb⟩ := h
  rcases Nat.eq_zero_or_pos l.length with h0 | h0
  · exact ⟨⟨rfl, hC.2.1, fun hp => by omega⟩, fun ad e hp => by omega⟩
  · obtain ⟨ad, e, hF⟩ := int_cells' hC h0
    have hlt := World.block_lt_of_cell? W _ (hF 0 h0)
    rw [add_block] at hlt
    have hq := hk ad.block hlt (hb ad e h0)
    refine ⟨⟨rfl, hC.2.1, fun hp => ?_⟩, fun ad' e' hp => ?_⟩
    · obtain ⟨ad', e', hc⟩ := hC.2.2 hp
      rw [e] at e'; cases e'
      refine ⟨ad, e, fun j p hj => ?_⟩
      obtain ⟨c, h1, h2, h3⟩ := hc j p hj
      exact ⟨c, h1, h2, fun i u hu => (World.cell?_of_block (by rw [add_block]; exact hq)).trans (h3 i u hu)⟩
    · rw [e] at e'; cases e'
      rcases hb ad e h0 with h | ⟨cs, h⟩
      · exact .inl h
      · exact .inr ⟨cs, hq.trans h⟩
theorem Src.grown {W W' : World} {base b : Nat} {A : Option Addr} {l : List Int} {cs : Array Value} {t : TypeId} (h : Src W base A l) (hg : W.grownBy W' (some b)) (hb : W.heap[b]? = some (.cells cs t (0, 0))) (ht : t ≠ 5) (hle : base ≤ b) : Src W' base A l :=
  h.keep fun k hk hor => hg.block k hk (fun e => by
    cases e
    rcases hor with h | ⟨cs', h⟩
    · omega
    · rw [hb] at h; injection h with h; injection h with _ h; exact ht h)
theorem Src.below {W W' : World} {base : Nat} {A : Option Addr} {l : List Int} (h : Src W base A l) (hb : Below W.heap.size W W') : Src W' base A l := h.keep fun k hk _ => hb.block k hk
theorem Src.of_R {w W : World} {base : Nat} {v : Value} {l : List Int} {ok : Nat → Prop} (h : (Kd.int .u8).R 5 W base ok v l) : ∃ A c, v = .slice A l.length c ∧ l.length ≤ c ∧ Src W base A l := by
  obtain ⟨A, c, hv, hc, hC⟩ := Kd.R_reads h
  refine ⟨A, c, hv, hc, hC, fun ad e hp => .inr ?_⟩
  obtain ⟨inner, ho⟩ := Kd.R_own h
  exact own_typed ho ad.block (by rw [hv, e]; rfl)
theorem Src.drop {W : World} {base k c : Nat} {A : Option Addr} {l : List Int} (h : Src W base A l) (hk : k ≤ l.length) (hc : l.length ≤ c) : Src W base (if c = k then A else A.map (·.add (k * 1))) (l.drop k) := by
  have hl : (l.drop k).length = l.length - k := List.length_drop
  refine ⟨Kd.C_drop h.1 hk hc, fun ad e hp => ?_⟩
  rw [hl] at hp
  rw [if_neg (by omega)] at e
  cases hA : A with
  | none => rw [hA] at e; cases e
  | some a =>
    rw [hA] at e; simp at e; subst e
    rw [add_block]
    exact h.2 a hA (by omega)
theorem Src.take {W : World} {base k : Nat} {A : Option Addr} {l : List Int} (h : Src W base A l) (hk : k ≤ l.length) : Src W base A (l.take k) := by
  have hl : (l.take k).length = k := by rw [List.length_take]; omega
  exact ⟨Kd.C_take h.1 hk, fun ad e hp => h.2 ad e (by omega)⟩

/-- At block b stand bytes that are taken, and whether there were too few. -/
def InIs (W : World) (base b : Nat) (l : List Int) (bad : Bool) : Prop :=
  ∃ A c, W.heap[b]? = some (.cells #[.slice A l.length c, .bool bad] 53 (0, 0)) ∧ base ≤ b ∧ l.length ≤ c ∧ Src W base A l
theorem inis_cells {W : World} {b : Nat} {v u : Value} (h : W.heap[b]? = some (.cells #[v, u] 53 (0, 0))) :
    W.cell? ⟨b, 0, none⟩ = some v ∧ W.cell? ⟨b, 1, none⟩ = some u ∧ W.frozen? ⟨b, 0, none⟩ = false ∧ W.frozen? ⟨b, 1, none⟩ = false :=
  ⟨(blk_cell h 0).trans rfl, (blk_cell h 1).trans rfl, blk_frozen h 0, blk_frozen h 1⟩
theorem InIs.lt {W : World} {base b : Nat} {l : List Int} {bad : Bool} (h : InIs W base b l bad) : b < W.heap.size := by
  obtain ⟨A, c, hb, _⟩ := h; exact blk_lt hb
theorem InIs.below {W W' : World} {base b : Nat} {l : List Int} {bad : Bool} (h : InIs W base b l bad) (hB : Below W.heap.size W W') : InIs W' base b l bad := by
  obtain ⟨A, c, hb, hle, hc, hs⟩ := h
  exact ⟨A, c, blk_below hb hB, hle, hc, hs.below hB⟩
/-- Another block, of no bytes, has been written. -/
theorem InIs.other {W W' : World} {base b g : Nat} {l : List Int} {bad : Bool} {cs : Array Value} {t : TypeId} (h : InIs W base b l bad) (hg : W.grownBy W' (some g)) (hb : W.heap[g]? = some (.cells cs t (0, 0))) (ht : t ≠ 5) (hle : base ≤ g) (hne : b ≠ g) : InIs W' base b l bad := by
  obtain ⟨A, c, hb', hle', hc, hs⟩ := h
  exact ⟨A, c, blk_grown hb' hg (by simpa using hne), hle', hc, hs.grown hg hb ht hle⟩
theorem grown_set {W W1 : World} {g : Nat} {p : Addr} (hB : Below W.heap.size W W1) (hp : p.block = g) (u : Value) : W.grownBy (W1.setCell p u) (some g) :=
  ⟨hB.os, hB.tape, hB.output, by simpa [World.setCell] using hB.size, fun k hk hne => by
    rw [Below.heap_setCell _ _ _ _ (by intro e; exact hne (by rw [e, hp]))]
    exact hB.block k hk⟩
theorem inis_bad {W : World} {base b : Nat} {l : List Int} {bad : Bool} (h : InIs W base b l bad) : InIs (W.setCell ⟨b, 1, none⟩ (.bool true)) base b l true ∧ W.grownBy (W.setCell ⟨b, 1, none⟩ (.bool true)) (some b) := by
  have hg := grown_set (W := W) (p := ⟨b, 1, none⟩) (Below.refl W.heap.size W) rfl (.bool true)
  obtain ⟨A, c, hb, hle, hc, hs⟩ := h
  exact ⟨⟨A, c, blk_set hb 1 _, hle, hc, hs.grown hg hb (by decide) hle⟩, hg⟩
theorem inis_move {W W1 : World} {base b n : Nat} {l l' : List Int} {bad : Bool} {A' : Option Addr} {c' : Nat} (h : InIs W base b l bad) (hB : Below W.heap.size W W1) (hn : l'.length = n) (hc' : l'.length ≤ c') (hs' : Src W1 base A' l') :
    InIs (W1.setCell ⟨b, 0, none⟩ (.slice A' n c')) base b l' bad ∧ W.grownBy (W1.setCell ⟨b, 0, none⟩ (.slice A' n c')) (some b) := by
  subst hn
  obtain ⟨A, c, hb, hle, hc, hs⟩ := h
  have hb1 := blk_below hb hB
  have hg1 := grown_set (W := W1) (p := ⟨b, 0, none⟩) (Below.refl W1.heap.size W1) rfl (.slice A' l'.length c')
  exact ⟨⟨A', c', blk_set hb1 0 _, hle, hc', hs'.grown hg1 hb1 (by decide) hle⟩, grown_set hB rfl _⟩

/-- Taking a number: it, what is left, and whether there were too few. -/
def tk (sz : Nat) (l : List Int) (bad : Bool) : Int × List Int × Bool := if l.length < sz then (0, l, true) else (unbe l sz, l.drop sz, bad)

set_option maxHeartbeats 2000000 in
theorem itake_any (sz : Nat) (hsz : sz = 2 ∨ sz = 4) (base b : Nat) (l : List Int) (bad : Bool) (w : World) (hI : InIs w base b l bad) (hby : Bytes l) (hl : l.length ≤ 1000000) (hbase : base ≤ w.heap.size) :
    Calls Try.prog 33 #[.pointer (some ⟨b, 0, none⟩), .int .i64 sz] w fun e w' => e = .returned (.int .i64 (tk sz l bad).1) ∧ InIs w' base b (tk sz l bad).2.1 (tk sz l bad).2.2 ∧ w.grownBy w' (some b) := by
  have HI := aside hI
  obtain ⟨A, c, hb, hle, hc, hs⟩ := hI
  obtain ⟨g0, g1, g2, g3⟩ := inis_cells hb
  have hlt := blk_lt hb
  have HB := aside hb
  have HS := aside hs
  by_cases hsh : l.length < sz
  · have ht : tk sz l bad = (0, l, true) := by simp [tk, hsh]
    rw [ht]
    have HT := aside (take_short sz hsz A c l w hsh)
    clear hb hs ht
    go_enter Try.func33, Try.ntmps33
    go_wp2_with (go_at_call 44; refine HT.out.mono ?_; rintro e w' ⟨rfl, hw⟩; obtain rfl := hw.symm)
    go_ret
    exact ⟨rfl, (inis_bad HI.out).1, (inis_bad HI.out).2⟩
  · have ht : tk sz l bad = (unbe l sz, l.drop sz, bad) := by simp [tk, hsh]
    rw [ht]
    dsimp only
    have HT := aside (take_any sz hsz A c l w hs.1 hc hby hl (by omega))
    generalize unbe l sz = u at HT ⊢
    have hdl : (l.drop sz).length ≤ 1000000 := by rw [List.length_drop]; omega
    generalize l.drop sz = l' at HT hdl ⊢
    clear hb hs ht hby
    go_enter Try.func33, Try.ntmps33
    go_wp2_with (go_at_call 44; refine HT.out.mono ?_; rintro e w1 ⟨v, rfl, hR, hB⟩; obtain ⟨A1, c1, hv1, hc1, hs1⟩ := Src.of_R (w := w1) hR; subst hv1; have HB1 := aside (blk_below HB.out hB); have k0 := (inis_cells HB1.out).1; have k2 := (inis_cells HB1.out).2.2.1)
    go_ret
    have hs2 : Src w1 base A1 l' := ⟨hs1.1, fun ad e hp => by
      rcases hs1.2 ad e hp with h | h
      · obtain ⟨inner, ho⟩ := Kd.R_own hR
        exact .inr (own_typed ho ad.block (by rw [e]; rfl))
      · exact .inr h⟩
    have h := inis_move HI.out hB rfl hc1 hs2
    exact ⟨rfl, h.1, h.2⟩

set_option maxHeartbeats 1000000 in
theorem itwo_any (base b : Nat) (l : List Int) (bad : Bool) (w : World) (hI : InIs w base b l bad) (hby : Bytes l) (hl : l.length ≤ 1000000) (hbase : base ≤ w.heap.size) :
    Calls Try.prog 16 #[.pointer (some ⟨b, 0, none⟩)] w fun e w' => e = .returned (.int .i64 (tk 2 l bad).1) ∧ InIs w' base b (tk 2 l bad).2.1 (tk 2 l bad).2.2 ∧ w.grownBy w' (some b) := by
  have HT := aside (itake_any 2 (.inl rfl) base b l bad w hI hby hl hbase)
  clear hI hby
  go_enter Try.func16, Try.ntmps16
  go_wp2_with (go_at_call 33; refine HT.out.mono ?_; rintro e w1 ⟨rfl, hI1, hG1⟩)
  go_ret
  exact ⟨rfl, hI1, hG1⟩

set_option maxHeartbeats 1000000 in
theorem ifour_any (base b : Nat) (l : List Int) (bad : Bool) (w : World) (hI : InIs w base b l bad) (hby : Bytes l) (hl : l.length ≤ 1000000) (hbase : base ≤ w.heap.size) :
    Calls Try.prog 17 #[.pointer (some ⟨b, 0, none⟩)] w fun e w' => e = .returned (.int .i64 (tk 4 l bad).1) ∧ InIs w' base b (tk 4 l bad).2.1 (tk 4 l bad).2.2 ∧ w.grownBy w' (some b) := by
  have HT := aside (itake_any 4 (.inr rfl) base b l bad w hI hby hl hbase)
  clear hI hby
  go_enter Try.func17, Try.ntmps17
  go_wp2_with (go_at_call 33; refine HT.out.mono ?_; rintro e w1 ⟨rfl, hI1, hG1⟩)
  go_ret
  exact ⟨rfl, hI1, hG1⟩
end Go.Proofs.Ytllllmhekdcbiaa
