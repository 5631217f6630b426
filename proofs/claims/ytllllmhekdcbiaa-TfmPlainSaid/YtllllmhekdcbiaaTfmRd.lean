/- The two functions that tfm's Read hands to each, walked: a character, a step, put behind a font's. -/
import Derived.Test.YtllllmhekdcbiaaTfmEach
import Derived.Test.YtllllmhekdcbiaaKindsTfm
import Derived.Deep.RegionLaw
set_option linter.unusedVariables false
set_option linter.unusedSimpArgs false
namespace Go.Proofs.Ytllllmhekdcbiaa
open Go.RowKit Go.Proofs.YtllllmhekdcbiaaW.PrintWords

theorem info_char : (Try.prog.info? 40).map (fun i => (i.zero, i.size, i.bytes)) = some (some (.agg #[.int .i64 0, .int .i64 0, .int .i64 0, .int .i64 0, .int .i64 0, .int .i64 0]), 6, 48) := by kernel_rfl
theorem info_step : (Try.prog.info? 50).map (fun i => (i.zero, i.size, i.bytes)) = some (some (.agg #[.int .i64 0, .int .i64 0, .int .i64 0, .int .i64 0]), 4, 32) := by kernel_rfl
theorem kChar_M (w : World) (base : Nat) (ok : Nat → Prop) (x : ChR) : kChar.M w base ok x [.int .i64 x.w, .int .i64 x.h, .int .i64 x.d, .int .i64 x.i, .int .i64 x.t, .int .i64 x.r] :=
  ⟨[_], _, rfl, rfl, [_], _, rfl, rfl, [_], _, rfl, rfl, [_], _, rfl, rfl, [_], [_], rfl, rfl, rfl⟩
theorem kStep_M (w : World) (base : Nat) (ok : Nat → Prop) (x : StR) : kStep.M w base ok x [.int .i64 x.s, .int .i64 x.n, .int .i64 x.o, .int .i64 x.r] :=
  ⟨[_], _, rfl, rfl, [_], _, rfl, rfl, [_], [_], rfl, rfl, rfl⟩
theorem and15 : ∀ n, n < 256 → bits .and .u8 ((n : Nat) : Int) 15 = (n : Int) % 16 := by decide +kernel
theorem and3 : ∀ n, n < 256 → bits .and .u8 ((n : Nat) : Int) 3 = (n : Int) % 4 := by decide +kernel

def rdChar (x0 x1 x2 x3 : Int) : ChR := ⟨x0, x1 / 16, x1 % 16, x2 / 4, x2 % 4, x3⟩
def rdStep (x0 x1 x2 x3 : Int) : StR := ⟨x0, x1, x2, x3⟩


set_option maxHeartbeats 4000000 in
set_option maxRecDepth 100000 in
theorem rdchar_any (base g : Nat) (fc : Array Value) (v : Value) (ls : List ChR) (x0 x1 x2 x3 : Int) (A : Option Addr) (c : Nat) (w : World) (hg : w.heap[g]? = some (.cells fc 26 (0, 0))) (hv : fc[3]? = some v) (hR : kChar.R 40 w base (fun k => k ≠ g) v ls) (hbg : base ≤ g) (hl : ls.length ≤ 100000)
    (hb : Bytes [x0, x1, x2, x3]) (hc : 4 ≤ c) (hs : Src w base A [x0, x1, x2, x3]) (hA : ∀ ad, A = some ad → ad.block ≠ g) :
    Calls Try.prog 19 #[.slice A 4 c, .pointer (some ⟨g, 0, none⟩)] w fun e w' => e = .returned (.tuple #[]) ∧ (∃ v', w'.heap[g]? = some (.cells (fc.setIfInBounds 3 v') 26 (0, 0)) ∧ kChar.R 40 w' base (fun k => k ≠ g) v' (ls ++ [rdChar x0 x1 x2 x3])) ∧ Save [g] [40] base w w' := by
  obtain ⟨ad, hAd, hF⟩ := int_cells' hs.1 (by simp)
  subst hAd
  have e0 : w.cell? ad = some (.int .u8 x0) := hF 0 (by simp)
  have e1 : w.cell? ⟨ad.block, ad.off + 1, none⟩ = some (.int .u8 x1) := hF 1 (by simp)
  have e2 : w.cell? ⟨ad.block, ad.off + 2, none⟩ = some (.int .u8 x2) := hF 2 (by simp)
  have e3 : w.cell? ⟨ad.block, ad.off + 3, none⟩ = some (.int .u8 x3) := hF 3 (by simp)
  have hne := hA ad rfl
  have hlt := blk_lt hg
  obtain ⟨A1, c1, hve⟩ := Kd.R_slice hR
  subst hve
  have hcell : w.cell? ⟨g, 3, none⟩ = some (.slice A1 ls.length c1) := (blk_cell hg 3).trans hv
  have hfr := blk_frozen hg 3
  have HR := aside hR
  have HG := aside hg
  have HS := aside hs
  have HB := aside hb
  have HV := aside hv
  have hn1 := Kd.R_ne hR hg (by decide)
  have hn2 : some ad.block ≠ (Value.slice A1 ls.length c1).ownBlock := by
    intro he
    obtain ⟨inner, ho⟩ := Kd.R_own hR
    obtain ⟨cs, h1⟩ := own_typed ho ad.block he.symm
    have h2 := own_base ho ad.block he.symm
    rcases hs.2 ad rfl (by simp) with h | ⟨cs', h⟩
    · omega
    · rw [h1] at h; injection h with h; injection h with _ h; revert h; decide
  have HNE := aside (And.intro hn1 hn2)
  have hy := aside (show (⟨IntKind.i64.wrap x0, IntKind.i64.wrap (x1 / 16), IntKind.i64.wrap (bits .and .u8 x1 15), IntKind.i64.wrap (x2 / 4), IntKind.i64.wrap (bits .and .u8 x2 3), IntKind.i64.wrap x3⟩ : ChR) = rdChar x0 x1 x2 x3 by
    have b0 : 0 ≤ x0 ∧ x0 < 256 := hb 0
    have b1 : 0 ≤ x1 ∧ x1 < 256 := hb 1
    have b2 : 0 ≤ x2 ∧ x2 < 256 := hb 2
    have b3 : 0 ≤ x3 ∧ x3 < 256 := hb 3
    have a1 : bits .and .u8 x1 15 = x1 % 16 := by
      obtain ⟨n, rfl⟩ := Int.eq_ofNat_of_zero_le b1.1
      exact and15 n (by omega)
    have a2 : bits .and .u8 x2 3 = x2 % 4 := by
      obtain ⟨n, rfl⟩ := Int.eq_ofNat_of_zero_le b2.1
      exact and3 n (by omega)
    rw [a1, a2, rdChar, wraps_i64 x0 b0.1 (by omega), wraps_i64 (x1 / 16) (by omega) (by omega), wraps_i64 (x1 % 16) (by omega) (by omega), wraps_i64 (x2 / 4) (by omega) (by omega), wraps_i64 (x2 % 4) (by omega) (by omega), wraps_i64 x3 b3.1 (by omega)])
  clear hF hR hg hv hs hb hA hn1 hn2
  go_enter Try.func19, Try.ntmps19
  refine wp_region_noPanic ?_
  refine wp_region_held_drew (S := (fun w' => w'.cell? ad = some (.int .u8 x0) ∧ w'.cell? ⟨ad.block, ad.off + 1, none⟩ = some (.int .u8 x1) ∧ w'.cell? ⟨ad.block, ad.off + 2, none⟩ = some (.int .u8 x2) ∧ w'.cell? ⟨ad.block, ad.off + 3, none⟩ = some (.int .u8 x3))) (by kernel_rfl) ?_ (fun hHeld => ?_)
  · exact ⟨e0, e1, e2, e3⟩
  refine wpAnyH_take (i := 0) (oi := { dst := some 3, op := Op.fieldAddr 26 (Operand.tmp 1) 3, type := 0, pos := "tfm.go:158", after := #[], guard := none }) (v := ?_) rfl (by kernel_rfl) (by kernel_rfl) (by kernel_rfl) (fun _ _ _ h => h) (Or.inl ⟨by rfl, ?_⟩) (by assumption) ?_
  rotate_left
  · intro w hSw; (try dsimp only at hSw); go_simp; (try with_reducible rfl)
  try simp only [Act.put, List.setIfInBounds_toArray, List.set_cons_zero, List.set_cons_succ]
  refine wpAnyH_take (i := 2) (oi := { dst := some 5, op := Op.move (Operand.tmp 0), type := 27, pos := "tfm.go:158", after := #[], guard := none }) (v := ?_) rfl (by kernel_rfl) (by kernel_rfl) (by kernel_rfl) (fun _ _ _ h => h) (Or.inl ⟨by rfl, ?_⟩) (by assumption) ?_
  rotate_left
  · intro w hSw; (try dsimp only at hSw); go_simp; (try with_reducible rfl)
  try simp only [Act.put, List.setIfInBounds_toArray, List.set_cons_zero, List.set_cons_succ]
  refine wpAnyH_take (i := 3) (oi := { dst := some 6, op := Op.indexAddr 27 (Operand.tmp 5) (Operand.const (Value.int IntKind.i64 0)), type := 0, pos := "tfm.go:158", after := #[{ on := 2, ground := Ground.data }], guard := none }) (v := ?_) rfl (by kernel_rfl) (by kernel_rfl) (by kernel_rfl) (fun _ _ _ h => h) (Or.inl ⟨by rfl, ?_⟩) (by assumption) ?_
  rotate_left
  · intro w hSw; (try dsimp only at hSw); go_simp; (try with_reducible rfl)
  try simp only [Act.put, List.setIfInBounds_toArray, List.set_cons_zero, List.set_cons_succ]
  refine wpAnyH_take (i := 4) (oi := { dst := some 7, op := Op.load 5 (Operand.tmp 6), type := 5, pos := "tfm.go:158", after := #[{ on := 3, ground := Ground.data }], guard := none }) (v := ?_) rfl (by kernel_rfl) (by kernel_rfl) (by kernel_rfl) (fun _ _ _ h => h) (Or.inl ⟨by rfl, ?_⟩) (by assumption) ?_
  rotate_left
  · intro w hSw; (try dsimp only at hSw); go_simp; (try with_reducible rfl)
  try simp only [Act.put, List.setIfInBounds_toArray, List.set_cons_zero, List.set_cons_succ]
  refine wpAnyH_take (i := 5) (oi := { dst := some 8, op := Op.convert 5 3 (Operand.tmp 7), type := 3, pos := "tfm.go:158", after := #[{ on := 4, ground := Ground.data }], guard := none }) (v := ?_) rfl (by kernel_rfl) (by kernel_rfl) (by kernel_rfl) (fun _ _ _ h => h) (Or.inl ⟨by rfl, ?_⟩) (by assumption) ?_
  rotate_left
  · intro w hSw; (try dsimp only at hSw); go_simp; (try with_reducible rfl)
  try simp only [Act.put, List.setIfInBounds_toArray, List.set_cons_zero, List.set_cons_succ]
  refine wpAnyH_take (i := 6) (oi := { dst := some 9, op := Op.move (Operand.tmp 0), type := 27, pos := "tfm.go:158", after := #[], guard := none }) (v := ?_) rfl (by kernel_rfl) (by kernel_rfl) (by kernel_rfl) (fun _ _ _ h => h) (Or.inl ⟨by rfl, ?_⟩) (by assumption) ?_
  rotate_left
  · intro w hSw; (try dsimp only at hSw); go_simp; (try with_reducible rfl)
  try simp only [Act.put, List.setIfInBounds_toArray, List.set_cons_zero, List.set_cons_succ]
  refine wpAnyH_take (i := 7) (oi := { dst := some 10, op := Op.indexAddr 27 (Operand.tmp 9) (Operand.const (Value.int IntKind.i64 1)), type := 0, pos := "tfm.go:158", after := #[{ on := 6, ground := Ground.data }], guard := none }) (v := ?_) rfl (by kernel_rfl) (by kernel_rfl) (by kernel_rfl) (fun _ _ _ h => h) (Or.inl ⟨by rfl, ?_⟩) (by assumption) ?_
  rotate_left
  · intro w hSw; (try dsimp only at hSw); go_simp; (try with_reducible rfl)
  try simp only [Act.put, List.setIfInBounds_toArray, List.set_cons_zero, List.set_cons_succ]
  refine wpAnyH_take (i := 8) (oi := { dst := some 11, op := Op.load 5 (Operand.tmp 10), type := 5, pos := "tfm.go:158", after := #[{ on := 7, ground := Ground.data }], guard := none }) (v := ?_) rfl (by kernel_rfl) (by kernel_rfl) (by kernel_rfl) (fun _ _ _ h => h) (Or.inl ⟨by rfl, ?_⟩) (by assumption) ?_
  rotate_left
  · intro w hSw; (try dsimp only at hSw); go_simp; (try with_reducible rfl)
  try simp only [Act.put, List.setIfInBounds_toArray, List.set_cons_zero, List.set_cons_succ]
  refine wpAnyH_take (i := 9) (oi := { dst := some 12, op := Op.binOp BinOp.shr 5 (Operand.tmp 11) (Operand.const (Value.int IntKind.u64 4)) 46, type := 5, pos := "tfm.go:158", after := #[{ on := 8, ground := Ground.data }], guard := none }) (v := ?_) rfl (by kernel_rfl) (by kernel_rfl) (by kernel_rfl) (fun _ _ _ h => h) (Or.inl ⟨by rfl, ?_⟩) (by assumption) ?_
  rotate_left
  · intro w hSw; (try dsimp only at hSw); go_simp; (try with_reducible rfl)
  try simp only [Act.put, List.setIfInBounds_toArray, List.set_cons_zero, List.set_cons_succ]
  refine wpAnyH_take (i := 10) (oi := { dst := some 13, op := Op.convert 5 3 (Operand.tmp 12), type := 3, pos := "tfm.go:158", after := #[{ on := 9, ground := Ground.data }], guard := none }) (v := ?_) rfl (by kernel_rfl) (by kernel_rfl) (by kernel_rfl) (fun _ _ _ h => h) (Or.inl ⟨by rfl, ?_⟩) (by assumption) ?_
  rotate_left
  · intro w hSw; (try dsimp only at hSw); go_simp; (try with_reducible rfl)
  try simp only [Act.put, List.setIfInBounds_toArray, List.set_cons_zero, List.set_cons_succ]
  refine wpAnyH_take (i := 11) (oi := { dst := some 14, op := Op.move (Operand.tmp 0), type := 27, pos := "tfm.go:158", after := #[], guard := none }) (v := ?_) rfl (by kernel_rfl) (by kernel_rfl) (by kernel_rfl) (fun _ _ _ h => h) (Or.inl ⟨by rfl, ?_⟩) (by assumption) ?_
  rotate_left
  · intro w hSw; (try dsimp only at hSw); go_simp; (try with_reducible rfl)
  try simp only [Act.put, List.setIfInBounds_toArray, List.set_cons_zero, List.set_cons_succ]
  refine wpAnyH_take (i := 12) (oi := { dst := some 15, op := Op.indexAddr 27 (Operand.tmp 14) (Operand.const (Value.int IntKind.i64 1)), type := 0, pos := "tfm.go:158", after := #[{ on := 11, ground := Ground.data }], guard := none }) (v := ?_) rfl (by kernel_rfl) (by kernel_rfl) (by kernel_rfl) (fun _ _ _ h => h) (Or.inl ⟨by rfl, ?_⟩) (by assumption) ?_
  rotate_left
  · intro w hSw; (try dsimp only at hSw); go_simp; (try with_reducible rfl)
  try simp only [Act.put, List.setIfInBounds_toArray, List.set_cons_zero, List.set_cons_succ]
  refine wpAnyH_take (i := 13) (oi := { dst := some 16, op := Op.load 5 (Operand.tmp 15), type := 5, pos := "tfm.go:158", after := #[{ on := 12, ground := Ground.data }], guard := none }) (v := ?_) rfl (by kernel_rfl) (by kernel_rfl) (by kernel_rfl) (fun _ _ _ h => h) (Or.inl ⟨by rfl, ?_⟩) (by assumption) ?_
  rotate_left
  · intro w hSw; (try dsimp only at hSw); go_simp; (try with_reducible rfl)
  try simp only [Act.put, List.setIfInBounds_toArray, List.set_cons_zero, List.set_cons_succ]
  refine wpAnyH_take (i := 14) (oi := { dst := some 17, op := Op.binOp BinOp.and 5 (Operand.tmp 16) (Operand.const (Value.int IntKind.u8 15)) 5, type := 5, pos := "tfm.go:158", after := #[{ on := 13, ground := Ground.data }], guard := none }) (v := ?_) rfl (by kernel_rfl) (by kernel_rfl) (by kernel_rfl) (fun _ _ _ h => h) (Or.inl ⟨by rfl, ?_⟩) (by assumption) ?_
  rotate_left
  · intro w hSw; (try dsimp only at hSw); go_simp; (try with_reducible rfl)
  try simp only [Act.put, List.setIfInBounds_toArray, List.set_cons_zero, List.set_cons_succ]
  refine wpAnyH_take (i := 15) (oi := { dst := some 18, op := Op.convert 5 3 (Operand.tmp 17), type := 3, pos := "tfm.go:158", after := #[{ on := 14, ground := Ground.data }], guard := none }) (v := ?_) rfl (by kernel_rfl) (by kernel_rfl) (by kernel_rfl) (fun _ _ _ h => h) (Or.inl ⟨by rfl, ?_⟩) (by assumption) ?_
  rotate_left
  · intro w hSw; (try dsimp only at hSw); go_simp; (try with_reducible rfl)
  try simp only [Act.put, List.setIfInBounds_toArray, List.set_cons_zero, List.set_cons_succ]
  refine wpAnyH_take (i := 16) (oi := { dst := some 19, op := Op.move (Operand.tmp 0), type := 27, pos := "tfm.go:158", after := #[], guard := none }) (v := ?_) rfl (by kernel_rfl) (by kernel_rfl) (by kernel_rfl) (fun _ _ _ h => h) (Or.inl ⟨by rfl, ?_⟩) (by assumption) ?_
  rotate_left
  · intro w hSw; (try dsimp only at hSw); go_simp; (try with_reducible rfl)
  try simp only [Act.put, List.setIfInBounds_toArray, List.set_cons_zero, List.set_cons_succ]
  refine wpAnyH_take (i := 17) (oi := { dst := some 20, op := Op.indexAddr 27 (Operand.tmp 19) (Operand.const (Value.int IntKind.i64 2)), type := 0, pos := "tfm.go:158", after := #[{ on := 16, ground := Ground.data }], guard := none }) (v := ?_) rfl (by kernel_rfl) (by kernel_rfl) (by kernel_rfl) (fun _ _ _ h => h) (Or.inl ⟨by rfl, ?_⟩) (by assumption) ?_
  rotate_left
  · intro w hSw; (try dsimp only at hSw); go_simp; (try with_reducible rfl)
  try simp only [Act.put, List.setIfInBounds_toArray, List.set_cons_zero, List.set_cons_succ]
  refine wpAnyH_take (i := 18) (oi := { dst := some 21, op := Op.load 5 (Operand.tmp 20), type := 5, pos := "tfm.go:158", after := #[{ on := 17, ground := Ground.data }], guard := none }) (v := ?_) rfl (by kernel_rfl) (by kernel_rfl) (by kernel_rfl) (fun _ _ _ h => h) (Or.inl ⟨by rfl, ?_⟩) (by assumption) ?_
  rotate_left
  · intro w hSw; (try dsimp only at hSw); go_simp; (try with_reducible rfl)
  try simp only [Act.put, List.setIfInBounds_toArray, List.set_cons_zero, List.set_cons_succ]
  refine wpAnyH_take (i := 19) (oi := { dst := some 22, op := Op.binOp BinOp.shr 5 (Operand.tmp 21) (Operand.const (Value.int IntKind.u64 2)) 46, type := 5, pos := "tfm.go:158", after := #[{ on := 18, ground := Ground.data }], guard := none }) (v := ?_) rfl (by kernel_rfl) (by kernel_rfl) (by kernel_rfl) (fun _ _ _ h => h) (Or.inl ⟨by rfl, ?_⟩) (by assumption) ?_
  rotate_left
  · intro w hSw; (try dsimp only at hSw); go_simp; (try with_reducible rfl)
  try simp only [Act.put, List.setIfInBounds_toArray, List.set_cons_zero, List.set_cons_succ]
  refine wpAnyH_take (i := 20) (oi := { dst := some 23, op := Op.convert 5 3 (Operand.tmp 22), type := 3, pos := "tfm.go:158", after := #[{ on := 19, ground := Ground.data }], guard := none }) (v := ?_) rfl (by kernel_rfl) (by kernel_rfl) (by kernel_rfl) (fun _ _ _ h => h) (Or.inl ⟨by rfl, ?_⟩) (by assumption) ?_
  rotate_left
  · intro w hSw; (try dsimp only at hSw); go_simp; (try with_reducible rfl)
  try simp only [Act.put, List.setIfInBounds_toArray, List.set_cons_zero, List.set_cons_succ]
  refine wpAnyH_take (i := 21) (oi := { dst := some 24, op := Op.move (Operand.tmp 0), type := 27, pos := "tfm.go:158", after := #[], guard := none }) (v := ?_) rfl (by kernel_rfl) (by kernel_rfl) (by kernel_rfl) (fun _ _ _ h => h) (Or.inl ⟨by rfl, ?_⟩) (by assumption) ?_
  rotate_left
  · intro w hSw; (try dsimp only at hSw); go_simp; (try with_reducible rfl)
  try simp only [Act.put, List.setIfInBounds_toArray, List.set_cons_zero, List.set_cons_succ]
  refine wpAnyH_take (i := 22) (oi := { dst := some 25, op := Op.indexAddr 27 (Operand.tmp 24) (Operand.const (Value.int IntKind.i64 2)), type := 0, pos := "tfm.go:158", after := #[{ on := 21, ground := Ground.data }], guard := none }) (v := ?_) rfl (by kernel_rfl) (by kernel_rfl) (by kernel_rfl) (fun _ _ _ h => h) (Or.inl ⟨by rfl, ?_⟩) (by assumption) ?_
  rotate_left
  · intro w hSw; (try dsimp only at hSw); go_simp; (try with_reducible rfl)
  try simp only [Act.put, List.setIfInBounds_toArray, List.set_cons_zero, List.set_cons_succ]
  refine wpAnyH_take (i := 23) (oi := { dst := some 26, op := Op.load 5 (Operand.tmp 25), type := 5, pos := "tfm.go:158", after := #[{ on := 22, ground := Ground.data }], guard := none }) (v := ?_) rfl (by kernel_rfl) (by kernel_rfl) (by kernel_rfl) (fun _ _ _ h => h) (Or.inl ⟨by rfl, ?_⟩) (by assumption) ?_
  rotate_left
  · intro w hSw; (try dsimp only at hSw); go_simp; (try with_reducible rfl)
  try simp only [Act.put, List.setIfInBounds_toArray, List.set_cons_zero, List.set_cons_succ]
  refine wpAnyH_take (i := 24) (oi := { dst := some 27, op := Op.binOp BinOp.and 5 (Operand.tmp 26) (Operand.const (Value.int IntKind.u8 3)) 5, type := 5, pos := "tfm.go:158", after := #[{ on := 23, ground := Ground.data }], guard := none }) (v := ?_) rfl (by kernel_rfl) (by kernel_rfl) (by kernel_rfl) (fun _ _ _ h => h) (Or.inl ⟨by rfl, ?_⟩) (by assumption) ?_
  rotate_left
  · intro w hSw; (try dsimp only at hSw); go_simp; (try with_reducible rfl)
  try simp only [Act.put, List.setIfInBounds_toArray, List.set_cons_zero, List.set_cons_succ]
  refine wpAnyH_take (i := 25) (oi := { dst := some 28, op := Op.convert 5 3 (Operand.tmp 27), type := 3, pos := "tfm.go:158", after := #[{ on := 24, ground := Ground.data }], guard := none }) (v := ?_) rfl (by kernel_rfl) (by kernel_rfl) (by kernel_rfl) (fun _ _ _ h => h) (Or.inl ⟨by rfl, ?_⟩) (by assumption) ?_
  rotate_left
  · intro w hSw; (try dsimp only at hSw); go_simp; (try with_reducible rfl)
  try simp only [Act.put, List.setIfInBounds_toArray, List.set_cons_zero, List.set_cons_succ]
  refine wpAnyH_take (i := 26) (oi := { dst := some 29, op := Op.move (Operand.tmp 0), type := 27, pos := "tfm.go:158", after := #[], guard := none }) (v := ?_) rfl (by kernel_rfl) (by kernel_rfl) (by kernel_rfl) (fun _ _ _ h => h) (Or.inl ⟨by rfl, ?_⟩) (by assumption) ?_
  rotate_left
  · intro w hSw; (try dsimp only at hSw); go_simp; (try with_reducible rfl)
  try simp only [Act.put, List.setIfInBounds_toArray, List.set_cons_zero, List.set_cons_succ]
  refine wpAnyH_take (i := 27) (oi := { dst := some 30, op := Op.indexAddr 27 (Operand.tmp 29) (Operand.const (Value.int IntKind.i64 3)), type := 0, pos := "tfm.go:158", after := #[{ on := 26, ground := Ground.data }], guard := none }) (v := ?_) rfl (by kernel_rfl) (by kernel_rfl) (by kernel_rfl) (fun _ _ _ h => h) (Or.inl ⟨by rfl, ?_⟩) (by assumption) ?_
  rotate_left
  · intro w hSw; (try dsimp only at hSw); go_simp; (try with_reducible rfl)
  try simp only [Act.put, List.setIfInBounds_toArray, List.set_cons_zero, List.set_cons_succ]
  refine wpAnyH_take (i := 28) (oi := { dst := some 31, op := Op.load 5 (Operand.tmp 30), type := 5, pos := "tfm.go:158", after := #[{ on := 27, ground := Ground.data }], guard := none }) (v := ?_) rfl (by kernel_rfl) (by kernel_rfl) (by kernel_rfl) (fun _ _ _ h => h) (Or.inl ⟨by rfl, ?_⟩) (by assumption) ?_
  rotate_left
  · intro w hSw; (try dsimp only at hSw); go_simp; (try with_reducible rfl)
  try simp only [Act.put, List.setIfInBounds_toArray, List.set_cons_zero, List.set_cons_succ]
  refine wpAnyH_take (i := 29) (oi := { dst := some 32, op := Op.convert 5 3 (Operand.tmp 31), type := 3, pos := "tfm.go:158", after := #[{ on := 28, ground := Ground.data }], guard := none }) (v := ?_) rfl (by kernel_rfl) (by kernel_rfl) (by kernel_rfl) (fun _ _ _ h => h) (Or.inl ⟨by rfl, ?_⟩) (by assumption) ?_
  rotate_left
  · intro w hSw; (try dsimp only at hSw); go_simp; (try with_reducible rfl)
  try simp only [Act.put, List.setIfInBounds_toArray, List.set_cons_zero, List.set_cons_succ]
  refine wpAnyH_take (i := 30) (oi := { dst := some 33, op := Op.build 40 #[(0, Operand.tmp 8), (1, Operand.tmp 13), (2, Operand.tmp 18), (3, Operand.tmp 23), (4, Operand.tmp 28), (5, Operand.tmp 32)], type := 40, pos := "tfm.go:158", after := #[{ on := 5, ground := Ground.data }, { on := 10, ground := Ground.data }, { on := 15, ground := Ground.data }, { on := 20, ground := Ground.data }, { on := 25, ground := Ground.data }, { on := 29, ground := Ground.data }], guard := none }) (v := ?_) rfl (by kernel_rfl) (by kernel_rfl) (by kernel_rfl) (fun _ _ _ h => h) (Or.inl ⟨by rfl, ?_⟩) (by assumption) ?_
  rotate_left
  · intro w hSw; (try dsimp only at hSw); go_simp; (try with_reducible rfl)
  try simp only [Act.put, List.setIfInBounds_toArray, List.set_cons_zero, List.set_cons_succ]
  refine wpAnyH_ready (rs := [1, 31]) (by kernel_rfl) (by simp) ?_
  refine AllReadyH.cons (o := { dst := some 4, op := Op.load 22 (Operand.tmp 3), type := 22, pos := "tfm.go:158", after := #[{ on := 0, ground := Ground.data }], guard := none }) rfl (fun K hK => ?_) ?_
  · go_simp
    refine hK.out _ _ ?_ (fun hHeld => ?_)
    · go_keep
    clear hK K
    try simp only [Act.put, List.setIfInBounds_toArray, List.set_cons_zero, List.set_cons_succ]
    refine wpAnyH_ready (rs := [31]) (by kernel_rfl) (by simp) ?_
    refine AllReadyH.cons (o := { dst := some 34, op := Op.buildSlice 22 1 #[(0, Operand.tmp 33)], type := 22, pos := "tfm.go:158", after := #[{ on := 30, ground := Ground.data }], guard := none }) rfl (fun K hK => ?_) AllReadyH.nil
    go_simp
    refine hK.out _ _ ?_ (fun hHeld => ?_)
    · go_keep
    clear hK K
    try simp only [Act.put, List.setIfInBounds_toArray, List.set_cons_zero, List.set_cons_succ]
    refine wpAnyH_ready (rs := [32]) (by kernel_rfl) (by simp) ?_
    refine AllReadyH.cons (o := { dst := some 35, op := Op.call { callee := Callee.builtin Builtin.append, args := #[Operand.tmp 4, Operand.tmp 34], argTypes := #[22, 22] }, type := 22, pos := "tfm.go:158", after := #[{ on := 1, ground := Ground.data }, { on := 31, ground := Ground.data }], guard := none }) rfl (fun K hK => ?_) AllReadyH.nil
    refine Kd.R_append_step kChar (w0 := w.drew) (W := w.drew) base (by rfl) (.tmp 4) (.tmp 34) 22 40 (.agg #[.int .i64 0, .int .i64 0, .int .i64 0, .int .i64 0, .int .i64 0, .int .i64 0]) 48 rfl Try.underlying22 info_char rfl (by decide) (by omega) (.slice A1 ls.length c1) ls ⟨IntKind.i64.wrap x0, IntKind.i64.wrap (x1 / 16), IntKind.i64.wrap (bits .and .u8 x1 15), IntKind.i64.wrap (x2 / 4), IntKind.i64.wrap (bits .and .u8 x2 3), IntKind.i64.wrap x3⟩ [.int .i64 (IntKind.i64.wrap x0), .int .i64 (IntKind.i64.wrap (x1 / 16)), .int .i64 (IntKind.i64.wrap (bits .and .u8 x1 15)), .int .i64 (IntKind.i64.wrap (x2 / 4)), .int .i64 (IntKind.i64.wrap (bits .and .u8 x2 3)), .int .i64 (IntKind.i64.wrap x3)] (fun k => k ≠ g) (fun _ => False) (by rfl) (by rfl) (kChar_M _ _ _ _) (fun _ h => h.elim) (fun k hk => by have : w.heap.size ≤ k := hk; omega) (Kd.R_drew HR.out) (Below.refl _ _) (by show base ≤ w.heap.size; omega) (by omega) ?_; intro v1 w1 hR1 hB1 hG1 hat1; obtain ⟨A2, c2, hv2⟩ := Kd.R_slice hR1; subst hv2; have HG1 := aside (blk_grown (blk_drew HG.out) hG1 HNE.out.1); have hf1 := blk_frozen HG1.out 3; have hk1 := (blk_cell HG1.out 3).trans HV.out; have g0 := hG1.cell (show w.drew.cell? _ = _ from e0) HNE.out.2; have g1 := hG1.cell (show w.drew.cell? _ = _ from e1) HNE.out.2; have g2 := hG1.cell (show w.drew.cell? _ = _ from e2) HNE.out.2; have g3 := hG1.cell (show w.drew.cell? _ = _ from e3) HNE.out.2
    refine hK.out _ _ ?_ (fun hHeld => ?_)
    · exact ⟨g0, g1, g2, g3⟩
    clear hK K
    try simp only [Act.put, List.setIfInBounds_toArray, List.set_cons_zero, List.set_cons_succ]
    refine wpAnyH_take (i := 33) (oi := { dst := some 36, op := Op.fieldAddr 26 (Operand.tmp 1) 3, type := 0, pos := "tfm.go:158", after := #[{ on := 0, ground := Ground.phase }, { on := 1, ground := Ground.phase }, { on := 2, ground := Ground.phase }, { on := 3, ground := Ground.phase }, { on := 4, ground := Ground.phase }, { on := 5, ground := Ground.phase }, { on := 6, ground := Ground.phase }, { on := 7, ground := Ground.phase }, { on := 8, ground := Ground.phase }, { on := 9, ground := Ground.phase }, { on := 10, ground := Ground.phase }, { on := 11, ground := Ground.phase }, { on := 12, ground := Ground.phase }, { on := 13, ground := Ground.phase }, { on := 14, ground := Ground.phase }, { on := 15, ground := Ground.phase }, { on := 16, ground := Ground.phase }, { on := 17, ground := Ground.phase }, { on := 18, ground := Ground.phase }, { on := 19, ground := Ground.phase }, { on := 20, ground := Ground.phase }, { on := 21, ground := Ground.phase }, { on := 22, ground := Ground.phase }, { on := 23, ground := Ground.phase }, { on := 24, ground := Ground.phase }, { on := 25, ground := Ground.phase }, { on := 26, ground := Ground.phase }, { on := 27, ground := Ground.phase }, { on := 28, ground := Ground.phase }, { on := 29, ground := Ground.phase }, { on := 30, ground := Ground.phase }, { on := 31, ground := Ground.phase }, { on := 32, ground := Ground.phase }], guard := none }) (v := ?_) rfl (by kernel_rfl) (by kernel_rfl) (by kernel_rfl) (fun _ _ _ h => h) (Or.inl ⟨by rfl, ?_⟩) (by assumption) ?_
    rotate_left
    · intro w hSw; (try dsimp only at hSw); go_simp; (try with_reducible rfl)
    try simp only [Act.put, List.setIfInBounds_toArray, List.set_cons_zero, List.set_cons_succ]
    refine wpAnyH_ready (rs := [34]) (by kernel_rfl) (by simp) ?_
    refine AllReadyH.cons (o := { dst := none, op := Op.store 22 (Operand.tmp 36) (Operand.tmp 35), type := 0, pos := "tfm.go:158", after := #[{ on := 33, ground := Ground.data }, { on := 32, ground := Ground.data }, { on := 32, ground := Ground.chain }, { on := 0, ground := Ground.phase }, { on := 1, ground := Ground.phase }, { on := 2, ground := Ground.phase }, { on := 3, ground := Ground.phase }, { on := 4, ground := Ground.phase }, { on := 5, ground := Ground.phase }, { on := 6, ground := Ground.phase }, { on := 7, ground := Ground.phase }, { on := 8, ground := Ground.phase }, { on := 9, ground := Ground.phase }, { on := 10, ground := Ground.phase }, { on := 11, ground := Ground.phase }, { on := 12, ground := Ground.phase }, { on := 13, ground := Ground.phase }, { on := 14, ground := Ground.phase }, { on := 15, ground := Ground.phase }, { on := 16, ground := Ground.phase }, { on := 17, ground := Ground.phase }, { on := 18, ground := Ground.phase }, { on := 19, ground := Ground.phase }, { on := 20, ground := Ground.phase }, { on := 21, ground := Ground.phase }, { on := 22, ground := Ground.phase }, { on := 23, ground := Ground.phase }, { on := 24, ground := Ground.phase }, { on := 25, ground := Ground.phase }, { on := 26, ground := Ground.phase }, { on := 27, ground := Ground.phase }, { on := 28, ground := Ground.phase }, { on := 29, ground := Ground.phase }, { on := 30, ground := Ground.phase }, { on := 31, ground := Ground.phase }, { on := 32, ground := Ground.phase }], guard := none }) rfl (fun K hK => ?_) AllReadyH.nil
    go_simp
    refine hK.out _ _ ?_ (fun hHeld => ?_)
    · exact ⟨(World.cell?_of_block (Below.heap_setCell _ _ _ _ hne)).trans g0, (World.cell?_of_block (Below.heap_setCell _ _ _ _ hne)).trans g1, (World.cell?_of_block (Below.heap_setCell _ _ _ _ hne)).trans g2, (World.cell?_of_block (Below.heap_setCell _ _ _ _ hne)).trans g3⟩
    clear hK K
    try simp only [Act.put, List.setIfInBounds_toArray, List.set_cons_zero, List.set_cons_succ]
    refine wpAnyH_done (by kernel_rfl) ?_ _
    refine NoPanic.normal ?_
    go_end0
    rw [hy.out, show (ls ++ [rdChar x0 x1 x2 x3]).length = ls.length + 1 by simp] at hR1
    exact ⟨rfl, ⟨_, blk_set HG1.out 3 _, Kd.R_far (p := ⟨g, 3, none⟩) hR1 (fun k hk => hk) _⟩, (Save.of_row (⟨hG1.os, hG1.tape, hG1.output, hG1.size, hG1.block⟩ : w.grownBy w1 _) (Kd.R_base HR.out) (Kd.R_typed HR.out) (by simp)).trans (Save.of_grown (grown_set (W := w1) (p := ⟨g, 3, none⟩) (Below.refl _ _) rfl _) (by simp))⟩
  · refine AllReadyH.cons (o := { dst := some 34, op := Op.buildSlice 22 1 #[(0, Operand.tmp 33)], type := 22, pos := "tfm.go:158", after := #[{ on := 30, ground := Ground.data }], guard := none }) rfl (fun K hK => ?_) AllReadyH.nil
    go_simp
    refine hK.out _ _ ?_ (fun hHeld => ?_)
    · go_keep
    clear hK K
    try simp only [Act.put, List.setIfInBounds_toArray, List.set_cons_zero, List.set_cons_succ]
    refine wpAnyH_ready (rs := [1]) (by kernel_rfl) (by simp) ?_
    refine AllReadyH.cons (o := { dst := some 4, op := Op.load 22 (Operand.tmp 3), type := 22, pos := "tfm.go:158", after := #[{ on := 0, ground := Ground.data }], guard := none }) rfl (fun K hK => ?_) AllReadyH.nil
    go_simp
    refine hK.out _ _ ?_ (fun hHeld => ?_)
    · go_keep
    clear hK K
    try simp only [Act.put, List.setIfInBounds_toArray, List.set_cons_zero, List.set_cons_succ]
    refine wpAnyH_ready (rs := [32]) (by kernel_rfl) (by simp) ?_
    refine AllReadyH.cons (o := { dst := some 35, op := Op.call { callee := Callee.builtin Builtin.append, args := #[Operand.tmp 4, Operand.tmp 34], argTypes := #[22, 22] }, type := 22, pos := "tfm.go:158", after := #[{ on := 1, ground := Ground.data }, { on := 31, ground := Ground.data }], guard := none }) rfl (fun K hK => ?_) AllReadyH.nil
    refine Kd.R_append_step kChar (w0 := w.drew) (W := w.drew) base (by rfl) (.tmp 4) (.tmp 34) 22 40 (.agg #[.int .i64 0, .int .i64 0, .int .i64 0, .int .i64 0, .int .i64 0, .int .i64 0]) 48 rfl Try.underlying22 info_char rfl (by decide) (by omega) (.slice A1 ls.length c1) ls ⟨IntKind.i64.wrap x0, IntKind.i64.wrap (x1 / 16), IntKind.i64.wrap (bits .and .u8 x1 15), IntKind.i64.wrap (x2 / 4), IntKind.i64.wrap (bits .and .u8 x2 3), IntKind.i64.wrap x3⟩ [.int .i64 (IntKind.i64.wrap x0), .int .i64 (IntKind.i64.wrap (x1 / 16)), .int .i64 (IntKind.i64.wrap (bits .and .u8 x1 15)), .int .i64 (IntKind.i64.wrap (x2 / 4)), .int .i64 (IntKind.i64.wrap (bits .and .u8 x2 3)), .int .i64 (IntKind.i64.wrap x3)] (fun k => k ≠ g) (fun _ => False) (by rfl) (by rfl) (kChar_M _ _ _ _) (fun _ h => h.elim) (fun k hk => by have : w.heap.size ≤ k := hk; omega) (Kd.R_drew HR.out) (Below.refl _ _) (by show base ≤ w.heap.size; omega) (by omega) ?_; intro v1 w1 hR1 hB1 hG1 hat1; obtain ⟨A2, c2, hv2⟩ := Kd.R_slice hR1; subst hv2; have HG1 := aside (blk_grown (blk_drew HG.out) hG1 HNE.out.1); have hf1 := blk_frozen HG1.out 3; have hk1 := (blk_cell HG1.out 3).trans HV.out; have g0 := hG1.cell (show w.drew.cell? _ = _ from e0) HNE.out.2; have g1 := hG1.cell (show w.drew.cell? _ = _ from e1) HNE.out.2; have g2 := hG1.cell (show w.drew.cell? _ = _ from e2) HNE.out.2; have g3 := hG1.cell (show w.drew.cell? _ = _ from e3) HNE.out.2
    refine hK.out _ _ ?_ (fun hHeld => ?_)
    · exact ⟨g0, g1, g2, g3⟩
    clear hK K
    try simp only [Act.put, List.setIfInBounds_toArray, List.set_cons_zero, List.set_cons_succ]
    refine wpAnyH_take (i := 33) (oi := { dst := some 36, op := Op.fieldAddr 26 (Operand.tmp 1) 3, type := 0, pos := "tfm.go:158", after := #[{ on := 0, ground := Ground.phase }, { on := 1, ground := Ground.phase }, { on := 2, ground := Ground.phase }, { on := 3, ground := Ground.phase }, { on := 4, ground := Ground.phase }, { on := 5, ground := Ground.phase }, { on := 6, ground := Ground.phase }, { on := 7, ground := Ground.phase }, { on := 8, ground := Ground.phase }, { on := 9, ground := Ground.phase }, { on := 10, ground := Ground.phase }, { on := 11, ground := Ground.phase }, { on := 12, ground := Ground.phase }, { on := 13, ground := Ground.phase }, { on := 14, ground := Ground.phase }, { on := 15, ground := Ground.phase }, { on := 16, ground := Ground.phase }, { on := 17, ground := Ground.phase }, { on := 18, ground := Ground.phase }, { on := 19, ground := Ground.phase }, { on := 20, ground := Ground.phase }, { on := 21, ground := Ground.phase }, { on := 22, ground := Ground.phase }, { on := 23, ground := Ground.phase }, { on := 24, ground := Ground.phase }, { on := 25, ground := Ground.phase }, { on := 26, ground := Ground.phase }, { on := 27, ground := Ground.phase }, { on := 28, ground := Ground.phase }, { on := 29, ground := Ground.phase }, { on := 30, ground := Ground.phase }, { on := 31, ground := Ground.phase }, { on := 32, ground := Ground.phase }], guard := none }) (v := ?_) rfl (by kernel_rfl) (by kernel_rfl) (by kernel_rfl) (fun _ _ _ h => h) (Or.inl ⟨by rfl, ?_⟩) (by assumption) ?_
    rotate_left
    · intro w hSw; (try dsimp only at hSw); go_simp; (try with_reducible rfl)
    try simp only [Act.put, List.setIfInBounds_toArray, List.set_cons_zero, List.set_cons_succ]
    refine wpAnyH_ready (rs := [34]) (by kernel_rfl) (by simp) ?_
    refine AllReadyH.cons (o := { dst := none, op := Op.store 22 (Operand.tmp 36) (Operand.tmp 35), type := 0, pos := "tfm.go:158", after := #[{ on := 33, ground := Ground.data }, { on := 32, ground := Ground.data }, { on := 32, ground := Ground.chain }, { on := 0, ground := Ground.phase }, { on := 1, ground := Ground.phase }, { on := 2, ground := Ground.phase }, { on := 3, ground := Ground.phase }, { on := 4, ground := Ground.phase }, { on := 5, ground := Ground.phase }, { on := 6, ground := Ground.phase }, { on := 7, ground := Ground.phase }, { on := 8, ground := Ground.phase }, { on := 9, ground := Ground.phase }, { on := 10, ground := Ground.phase }, { on := 11, ground := Ground.phase }, { on := 12, ground := Ground.phase }, { on := 13, ground := Ground.phase }, { on := 14, ground := Ground.phase }, { on := 15, ground := Ground.phase }, { on := 16, ground := Ground.phase }, { on := 17, ground := Ground.phase }, { on := 18, ground := Ground.phase }, { on := 19, ground := Ground.phase }, { on := 20, ground := Ground.phase }, { on := 21, ground := Ground.phase }, { on := 22, ground := Ground.phase }, { on := 23, ground := Ground.phase }, { on := 24, ground := Ground.phase }, { on := 25, ground := Ground.phase }, { on := 26, ground := Ground.phase }, { on := 27, ground := Ground.phase }, { on := 28, ground := Ground.phase }, { on := 29, ground := Ground.phase }, { on := 30, ground := Ground.phase }, { on := 31, ground := Ground.phase }, { on := 32, ground := Ground.phase }], guard := none }) rfl (fun K hK => ?_) AllReadyH.nil
    go_simp
    refine hK.out _ _ ?_ (fun hHeld => ?_)
    · exact ⟨(World.cell?_of_block (Below.heap_setCell _ _ _ _ hne)).trans g0, (World.cell?_of_block (Below.heap_setCell _ _ _ _ hne)).trans g1, (World.cell?_of_block (Below.heap_setCell _ _ _ _ hne)).trans g2, (World.cell?_of_block (Below.heap_setCell _ _ _ _ hne)).trans g3⟩
    clear hK K
    try simp only [Act.put, List.setIfInBounds_toArray, List.set_cons_zero, List.set_cons_succ]
    refine wpAnyH_done (by kernel_rfl) ?_ _
    refine NoPanic.normal ?_
    go_end0
    rw [hy.out, show (ls ++ [rdChar x0 x1 x2 x3]).length = ls.length + 1 by simp] at hR1
    exact ⟨rfl, ⟨_, blk_set HG1.out 3 _, Kd.R_far (p := ⟨g, 3, none⟩) hR1 (fun k hk => hk) _⟩, (Save.of_row (⟨hG1.os, hG1.tape, hG1.output, hG1.size, hG1.block⟩ : w.grownBy w1 _) (Kd.R_base HR.out) (Kd.R_typed HR.out) (by simp)).trans (Save.of_grown (grown_set (W := w1) (p := ⟨g, 3, none⟩) (Below.refl _ _) rfl _) (by simp))⟩


set_option maxHeartbeats 4000000 in
set_option maxRecDepth 100000 in
theorem rdstep_any (base g : Nat) (fc : Array Value) (v : Value) (ls : List StR) (x0 x1 x2 x3 : Int) (A : Option Addr) (c : Nat) (w : World) (hg : w.heap[g]? = some (.cells fc 26 (0, 0))) (hv : fc[8]? = some v) (hR : kStep.R 50 w base (fun k => k ≠ g) v ls) (hbg : base ≤ g) (hl : ls.length ≤ 100000)
    (hb : Bytes [x0, x1, x2, x3]) (hc : 4 ≤ c) (hs : Src w base A [x0, x1, x2, x3]) (hA : ∀ ad, A = some ad → ad.block ≠ g) :
    Calls Try.prog 21 #[.slice A 4 c, .pointer (some ⟨g, 0, none⟩)] w fun e w' => e = .returned (.tuple #[]) ∧ (∃ v', w'.heap[g]? = some (.cells (fc.setIfInBounds 8 v') 26 (0, 0)) ∧ kStep.R 50 w' base (fun k => k ≠ g) v' (ls ++ [rdStep x0 x1 x2 x3])) ∧ Save [g] [50] base w w' := by
  obtain ⟨ad, hAd, hF⟩ := int_cells' hs.1 (by simp)
  subst hAd
  have e0 : w.cell? ad = some (.int .u8 x0) := hF 0 (by simp)
  have e1 : w.cell? ⟨ad.block, ad.off + 1, none⟩ = some (.int .u8 x1) := hF 1 (by simp)
  have e2 : w.cell? ⟨ad.block, ad.off + 2, none⟩ = some (.int .u8 x2) := hF 2 (by simp)
  have e3 : w.cell? ⟨ad.block, ad.off + 3, none⟩ = some (.int .u8 x3) := hF 3 (by simp)
  have hne := hA ad rfl
  have hlt := blk_lt hg
  obtain ⟨A1, c1, hve⟩ := Kd.R_slice hR
  subst hve
  have hcell : w.cell? ⟨g, 8, none⟩ = some (.slice A1 ls.length c1) := (blk_cell hg 8).trans hv
  have hfr := blk_frozen hg 8
  have HR := aside hR
  have HG := aside hg
  have HS := aside hs
  have HB := aside hb
  have HV := aside hv
  have hn1 := Kd.R_ne hR hg (by decide)
  have hn2 : some ad.block ≠ (Value.slice A1 ls.length c1).ownBlock := by
    intro he
    obtain ⟨inner, ho⟩ := Kd.R_own hR
    obtain ⟨cs, h1⟩ := own_typed ho ad.block he.symm
    have h2 := own_base ho ad.block he.symm
    rcases hs.2 ad rfl (by simp) with h | ⟨cs', h⟩
    · omega
    · rw [h1] at h; injection h with h; injection h with _ h; revert h; decide
  have HNE := aside (And.intro hn1 hn2)
  have hy := aside (show (⟨IntKind.i64.wrap x0, IntKind.i64.wrap x1, IntKind.i64.wrap x2, IntKind.i64.wrap x3⟩ : StR) = rdStep x0 x1 x2 x3 by
    have b0 : 0 ≤ x0 ∧ x0 < 256 := hb 0
    have b1 : 0 ≤ x1 ∧ x1 < 256 := hb 1
    have b2 : 0 ≤ x2 ∧ x2 < 256 := hb 2
    have b3 : 0 ≤ x3 ∧ x3 < 256 := hb 3
    rw [rdStep, wraps_i64 x0 b0.1 (by omega), wraps_i64 x1 b1.1 (by omega), wraps_i64 x2 b2.1 (by omega), wraps_i64 x3 b3.1 (by omega)])
  clear hF hR hg hv hs hb hA hn1 hn2
  go_enter Try.func21, Try.ntmps21
  refine wp_region_noPanic ?_
  refine wp_region_held_drew (S := (fun w' => w'.cell? ad = some (.int .u8 x0) ∧ w'.cell? ⟨ad.block, ad.off + 1, none⟩ = some (.int .u8 x1) ∧ w'.cell? ⟨ad.block, ad.off + 2, none⟩ = some (.int .u8 x2) ∧ w'.cell? ⟨ad.block, ad.off + 3, none⟩ = some (.int .u8 x3))) (by kernel_rfl) ?_ (fun hHeld => ?_)
  · exact ⟨e0, e1, e2, e3⟩
  refine wpAnyH_take (i := 0) (oi := { dst := some 3, op := Op.fieldAddr 26 (Operand.tmp 1) 8, type := 0, pos := "tfm.go:164", after := #[], guard := none }) (v := ?_) rfl (by kernel_rfl) (by kernel_rfl) (by kernel_rfl) (fun _ _ _ h => h) (Or.inl ⟨by rfl, ?_⟩) (by assumption) ?_
  rotate_left
  · intro w hSw; (try dsimp only at hSw); go_simp; (try with_reducible rfl)
  try simp only [Act.put, List.setIfInBounds_toArray, List.set_cons_zero, List.set_cons_succ]
  refine wpAnyH_take (i := 2) (oi := { dst := some 5, op := Op.move (Operand.tmp 0), type := 27, pos := "tfm.go:164", after := #[], guard := none }) (v := ?_) rfl (by kernel_rfl) (by kernel_rfl) (by kernel_rfl) (fun _ _ _ h => h) (Or.inl ⟨by rfl, ?_⟩) (by assumption) ?_
  rotate_left
  · intro w hSw; (try dsimp only at hSw); go_simp; (try with_reducible rfl)
  try simp only [Act.put, List.setIfInBounds_toArray, List.set_cons_zero, List.set_cons_succ]
  refine wpAnyH_take (i := 3) (oi := { dst := some 6, op := Op.indexAddr 27 (Operand.tmp 5) (Operand.const (Value.int IntKind.i64 0)), type := 0, pos := "tfm.go:164", after := #[{ on := 2, ground := Ground.data }], guard := none }) (v := ?_) rfl (by kernel_rfl) (by kernel_rfl) (by kernel_rfl) (fun _ _ _ h => h) (Or.inl ⟨by rfl, ?_⟩) (by assumption) ?_
  rotate_left
  · intro w hSw; (try dsimp only at hSw); go_simp; (try with_reducible rfl)
  try simp only [Act.put, List.setIfInBounds_toArray, List.set_cons_zero, List.set_cons_succ]
  refine wpAnyH_take (i := 4) (oi := { dst := some 7, op := Op.load 5 (Operand.tmp 6), type := 5, pos := "tfm.go:164", after := #[{ on := 3, ground := Ground.data }], guard := none }) (v := ?_) rfl (by kernel_rfl) (by kernel_rfl) (by kernel_rfl) (fun _ _ _ h => h) (Or.inl ⟨by rfl, ?_⟩) (by assumption) ?_
  rotate_left
  · intro w hSw; (try dsimp only at hSw); go_simp; (try with_reducible rfl)
  try simp only [Act.put, List.setIfInBounds_toArray, List.set_cons_zero, List.set_cons_succ]
  refine wpAnyH_take (i := 5) (oi := { dst := some 8, op := Op.convert 5 3 (Operand.tmp 7), type := 3, pos := "tfm.go:164", after := #[{ on := 4, ground := Ground.data }], guard := none }) (v := ?_) rfl (by kernel_rfl) (by kernel_rfl) (by kernel_rfl) (fun _ _ _ h => h) (Or.inl ⟨by rfl, ?_⟩) (by assumption) ?_
  rotate_left
  · intro w hSw; (try dsimp only at hSw); go_simp; (try with_reducible rfl)
  try simp only [Act.put, List.setIfInBounds_toArray, List.set_cons_zero, List.set_cons_succ]
  refine wpAnyH_take (i := 6) (oi := { dst := some 9, op := Op.move (Operand.tmp 0), type := 27, pos := "tfm.go:164", after := #[], guard := none }) (v := ?_) rfl (by kernel_rfl) (by kernel_rfl) (by kernel_rfl) (fun _ _ _ h => h) (Or.inl ⟨by rfl, ?_⟩) (by assumption) ?_
  rotate_left
  · intro w hSw; (try dsimp only at hSw); go_simp; (try with_reducible rfl)
  try simp only [Act.put, List.setIfInBounds_toArray, List.set_cons_zero, List.set_cons_succ]
  refine wpAnyH_take (i := 7) (oi := { dst := some 10, op := Op.indexAddr 27 (Operand.tmp 9) (Operand.const (Value.int IntKind.i64 1)), type := 0, pos := "tfm.go:164", after := #[{ on := 6, ground := Ground.data }], guard := none }) (v := ?_) rfl (by kernel_rfl) (by kernel_rfl) (by kernel_rfl) (fun _ _ _ h => h) (Or.inl ⟨by rfl, ?_⟩) (by assumption) ?_
  rotate_left
  · intro w hSw; (try dsimp only at hSw); go_simp; (try with_reducible rfl)
  try simp only [Act.put, List.setIfInBounds_toArray, List.set_cons_zero, List.set_cons_succ]
  refine wpAnyH_take (i := 8) (oi := { dst := some 11, op := Op.load 5 (Operand.tmp 10), type := 5, pos := "tfm.go:164", after := #[{ on := 7, ground := Ground.data }], guard := none }) (v := ?_) rfl (by kernel_rfl) (by kernel_rfl) (by kernel_rfl) (fun _ _ _ h => h) (Or.inl ⟨by rfl, ?_⟩) (by assumption) ?_
  rotate_left
  · intro w hSw; (try dsimp only at hSw); go_simp; (try with_reducible rfl)
  try simp only [Act.put, List.setIfInBounds_toArray, List.set_cons_zero, List.set_cons_succ]
  refine wpAnyH_take (i := 9) (oi := { dst := some 12, op := Op.convert 5 3 (Operand.tmp 11), type := 3, pos := "tfm.go:164", after := #[{ on := 8, ground := Ground.data }], guard := none }) (v := ?_) rfl (by kernel_rfl) (by kernel_rfl) (by kernel_rfl) (fun _ _ _ h => h) (Or.inl ⟨by rfl, ?_⟩) (by assumption) ?_
  rotate_left
  · intro w hSw; (try dsimp only at hSw); go_simp; (try with_reducible rfl)
  try simp only [Act.put, List.setIfInBounds_toArray, List.set_cons_zero, List.set_cons_succ]
  refine wpAnyH_take (i := 10) (oi := { dst := some 13, op := Op.move (Operand.tmp 0), type := 27, pos := "tfm.go:164", after := #[], guard := none }) (v := ?_) rfl (by kernel_rfl) (by kernel_rfl) (by kernel_rfl) (fun _ _ _ h => h) (Or.inl ⟨by rfl, ?_⟩) (by assumption) ?_
  rotate_left
  · intro w hSw; (try dsimp only at hSw); go_simp; (try with_reducible rfl)
  try simp only [Act.put, List.setIfInBounds_toArray, List.set_cons_zero, List.set_cons_succ]
  refine wpAnyH_take (i := 11) (oi := { dst := some 14, op := Op.indexAddr 27 (Operand.tmp 13) (Operand.const (Value.int IntKind.i64 2)), type := 0, pos := "tfm.go:164", after := #[{ on := 10, ground := Ground.data }], guard := none }) (v := ?_) rfl (by kernel_rfl) (by kernel_rfl) (by kernel_rfl) (fun _ _ _ h => h) (Or.inl ⟨by rfl, ?_⟩) (by assumption) ?_
  rotate_left
  · intro w hSw; (try dsimp only at hSw); go_simp; (try with_reducible rfl)
  try simp only [Act.put, List.setIfInBounds_toArray, List.set_cons_zero, List.set_cons_succ]
  refine wpAnyH_take (i := 12) (oi := { dst := some 15, op := Op.load 5 (Operand.tmp 14), type := 5, pos := "tfm.go:164", after := #[{ on := 11, ground := Ground.data }], guard := none }) (v := ?_) rfl (by kernel_rfl) (by kernel_rfl) (by kernel_rfl) (fun _ _ _ h => h) (Or.inl ⟨by rfl, ?_⟩) (by assumption) ?_
  rotate_left
  · intro w hSw; (try dsimp only at hSw); go_simp; (try with_reducible rfl)
  try simp only [Act.put, List.setIfInBounds_toArray, List.set_cons_zero, List.set_cons_succ]
  refine wpAnyH_take (i := 13) (oi := { dst := some 16, op := Op.convert 5 3 (Operand.tmp 15), type := 3, pos := "tfm.go:164", after := #[{ on := 12, ground := Ground.data }], guard := none }) (v := ?_) rfl (by kernel_rfl) (by kernel_rfl) (by kernel_rfl) (fun _ _ _ h => h) (Or.inl ⟨by rfl, ?_⟩) (by assumption) ?_
  rotate_left
  · intro w hSw; (try dsimp only at hSw); go_simp; (try with_reducible rfl)
  try simp only [Act.put, List.setIfInBounds_toArray, List.set_cons_zero, List.set_cons_succ]
  refine wpAnyH_take (i := 14) (oi := { dst := some 17, op := Op.move (Operand.tmp 0), type := 27, pos := "tfm.go:164", after := #[], guard := none }) (v := ?_) rfl (by kernel_rfl) (by kernel_rfl) (by kernel_rfl) (fun _ _ _ h => h) (Or.inl ⟨by rfl, ?_⟩) (by assumption) ?_
  rotate_left
  · intro w hSw; (try dsimp only at hSw); go_simp; (try with_reducible rfl)
  try simp only [Act.put, List.setIfInBounds_toArray, List.set_cons_zero, List.set_cons_succ]
  refine wpAnyH_take (i := 15) (oi := { dst := some 18, op := Op.indexAddr 27 (Operand.tmp 17) (Operand.const (Value.int IntKind.i64 3)), type := 0, pos := "tfm.go:164", after := #[{ on := 14, ground := Ground.data }], guard := none }) (v := ?_) rfl (by kernel_rfl) (by kernel_rfl) (by kernel_rfl) (fun _ _ _ h => h) (Or.inl ⟨by rfl, ?_⟩) (by assumption) ?_
  rotate_left
  · intro w hSw; (try dsimp only at hSw); go_simp; (try with_reducible rfl)
  try simp only [Act.put, List.setIfInBounds_toArray, List.set_cons_zero, List.set_cons_succ]
  refine wpAnyH_take (i := 16) (oi := { dst := some 19, op := Op.load 5 (Operand.tmp 18), type := 5, pos := "tfm.go:164", after := #[{ on := 15, ground := Ground.data }], guard := none }) (v := ?_) rfl (by kernel_rfl) (by kernel_rfl) (by kernel_rfl) (fun _ _ _ h => h) (Or.inl ⟨by rfl, ?_⟩) (by assumption) ?_
  rotate_left
  · intro w hSw; (try dsimp only at hSw); go_simp; (try with_reducible rfl)
  try simp only [Act.put, List.setIfInBounds_toArray, List.set_cons_zero, List.set_cons_succ]
  refine wpAnyH_take (i := 17) (oi := { dst := some 20, op := Op.convert 5 3 (Operand.tmp 19), type := 3, pos := "tfm.go:164", after := #[{ on := 16, ground := Ground.data }], guard := none }) (v := ?_) rfl (by kernel_rfl) (by kernel_rfl) (by kernel_rfl) (fun _ _ _ h => h) (Or.inl ⟨by rfl, ?_⟩) (by assumption) ?_
  rotate_left
  · intro w hSw; (try dsimp only at hSw); go_simp; (try with_reducible rfl)
  try simp only [Act.put, List.setIfInBounds_toArray, List.set_cons_zero, List.set_cons_succ]
  refine wpAnyH_take (i := 18) (oi := { dst := some 21, op := Op.build 50 #[(0, Operand.tmp 8), (1, Operand.tmp 12), (2, Operand.tmp 16), (3, Operand.tmp 20)], type := 50, pos := "tfm.go:164", after := #[{ on := 5, ground := Ground.data }, { on := 9, ground := Ground.data }, { on := 13, ground := Ground.data }, { on := 17, ground := Ground.data }], guard := none }) (v := ?_) rfl (by kernel_rfl) (by kernel_rfl) (by kernel_rfl) (fun _ _ _ h => h) (Or.inl ⟨by rfl, ?_⟩) (by assumption) ?_
  rotate_left
  · intro w hSw; (try dsimp only at hSw); go_simp; (try with_reducible rfl)
  try simp only [Act.put, List.setIfInBounds_toArray, List.set_cons_zero, List.set_cons_succ]
  refine wpAnyH_ready (rs := [1, 19]) (by kernel_rfl) (by simp) ?_
  refine AllReadyH.cons (o := { dst := some 4, op := Op.load 24 (Operand.tmp 3), type := 24, pos := "tfm.go:164", after := #[{ on := 0, ground := Ground.data }], guard := none }) rfl (fun K hK => ?_) ?_
  · go_simp
    refine hK.out _ _ ?_ (fun hHeld => ?_)
    · go_keep
    clear hK K
    try simp only [Act.put, List.setIfInBounds_toArray, List.set_cons_zero, List.set_cons_succ]
    refine wpAnyH_ready (rs := [19]) (by kernel_rfl) (by simp) ?_
    refine AllReadyH.cons (o := { dst := some 22, op := Op.buildSlice 24 1 #[(0, Operand.tmp 21)], type := 24, pos := "tfm.go:164", after := #[{ on := 18, ground := Ground.data }], guard := none }) rfl (fun K hK => ?_) AllReadyH.nil
    go_simp
    refine hK.out _ _ ?_ (fun hHeld => ?_)
    · go_keep
    clear hK K
    try simp only [Act.put, List.setIfInBounds_toArray, List.set_cons_zero, List.set_cons_succ]
    refine wpAnyH_ready (rs := [20]) (by kernel_rfl) (by simp) ?_
    refine AllReadyH.cons (o := { dst := some 23, op := Op.call { callee := Callee.builtin Builtin.append, args := #[Operand.tmp 4, Operand.tmp 22], argTypes := #[24, 24] }, type := 24, pos := "tfm.go:164", after := #[{ on := 1, ground := Ground.data }, { on := 19, ground := Ground.data }], guard := none }) rfl (fun K hK => ?_) AllReadyH.nil
    refine Kd.R_append_step kStep (w0 := w.drew) (W := w.drew) base (by rfl) (.tmp 4) (.tmp 22) 24 50 (.agg #[.int .i64 0, .int .i64 0, .int .i64 0, .int .i64 0]) 32 rfl Try.underlying24 info_step rfl (by decide) (by omega) (.slice A1 ls.length c1) ls ⟨IntKind.i64.wrap x0, IntKind.i64.wrap x1, IntKind.i64.wrap x2, IntKind.i64.wrap x3⟩ [.int .i64 (IntKind.i64.wrap x0), .int .i64 (IntKind.i64.wrap x1), .int .i64 (IntKind.i64.wrap x2), .int .i64 (IntKind.i64.wrap x3)] (fun k => k ≠ g) (fun _ => False) (by rfl) (by rfl) (kStep_M _ _ _ _) (fun _ h => h.elim) (fun k hk => by have : w.heap.size ≤ k := hk; omega) (Kd.R_drew HR.out) (Below.refl _ _) (by show base ≤ w.heap.size; omega) (by omega) ?_; intro v1 w1 hR1 hB1 hG1 hat1; obtain ⟨A2, c2, hv2⟩ := Kd.R_slice hR1; subst hv2; have HG1 := aside (blk_grown (blk_drew HG.out) hG1 HNE.out.1); have hf1 := blk_frozen HG1.out 8; have hk1 := (blk_cell HG1.out 8).trans HV.out; have g0 := hG1.cell (show w.drew.cell? _ = _ from e0) HNE.out.2; have g1 := hG1.cell (show w.drew.cell? _ = _ from e1) HNE.out.2; have g2 := hG1.cell (show w.drew.cell? _ = _ from e2) HNE.out.2; have g3 := hG1.cell (show w.drew.cell? _ = _ from e3) HNE.out.2
    refine hK.out _ _ ?_ (fun hHeld => ?_)
    · exact ⟨g0, g1, g2, g3⟩
    clear hK K
    try simp only [Act.put, List.setIfInBounds_toArray, List.set_cons_zero, List.set_cons_succ]
    refine wpAnyH_take (i := 21) (oi := { dst := some 24, op := Op.fieldAddr 26 (Operand.tmp 1) 8, type := 0, pos := "tfm.go:164", after := #[{ on := 0, ground := Ground.phase }, { on := 1, ground := Ground.phase }, { on := 2, ground := Ground.phase }, { on := 3, ground := Ground.phase }, { on := 4, ground := Ground.phase }, { on := 5, ground := Ground.phase }, { on := 6, ground := Ground.phase }, { on := 7, ground := Ground.phase }, { on := 8, ground := Ground.phase }, { on := 9, ground := Ground.phase }, { on := 10, ground := Ground.phase }, { on := 11, ground := Ground.phase }, { on := 12, ground := Ground.phase }, { on := 13, ground := Ground.phase }, { on := 14, ground := Ground.phase }, { on := 15, ground := Ground.phase }, { on := 16, ground := Ground.phase }, { on := 17, ground := Ground.phase }, { on := 18, ground := Ground.phase }, { on := 19, ground := Ground.phase }, { on := 20, ground := Ground.phase }], guard := none }) (v := ?_) rfl (by kernel_rfl) (by kernel_rfl) (by kernel_rfl) (fun _ _ _ h => h) (Or.inl ⟨by rfl, ?_⟩) (by assumption) ?_
    rotate_left
    · intro w hSw; (try dsimp only at hSw); go_simp; (try with_reducible rfl)
    try simp only [Act.put, List.setIfInBounds_toArray, List.set_cons_zero, List.set_cons_succ]
    refine wpAnyH_ready (rs := [22]) (by kernel_rfl) (by simp) ?_
    refine AllReadyH.cons (o := { dst := none, op := Op.store 24 (Operand.tmp 24) (Operand.tmp 23), type := 0, pos := "tfm.go:164", after := #[{ on := 21, ground := Ground.data }, { on := 20, ground := Ground.data }, { on := 20, ground := Ground.chain }, { on := 0, ground := Ground.phase }, { on := 1, ground := Ground.phase }, { on := 2, ground := Ground.phase }, { on := 3, ground := Ground.phase }, { on := 4, ground := Ground.phase }, { on := 5, ground := Ground.phase }, { on := 6, ground := Ground.phase }, { on := 7, ground := Ground.phase }, { on := 8, ground := Ground.phase }, { on := 9, ground := Ground.phase }, { on := 10, ground := Ground.phase }, { on := 11, ground := Ground.phase }, { on := 12, ground := Ground.phase }, { on := 13, ground := Ground.phase }, { on := 14, ground := Ground.phase }, { on := 15, ground := Ground.phase }, { on := 16, ground := Ground.phase }, { on := 17, ground := Ground.phase }, { on := 18, ground := Ground.phase }, { on := 19, ground := Ground.phase }, { on := 20, ground := Ground.phase }], guard := none }) rfl (fun K hK => ?_) AllReadyH.nil
    go_simp
    refine hK.out _ _ ?_ (fun hHeld => ?_)
    · exact ⟨(World.cell?_of_block (Below.heap_setCell _ _ _ _ hne)).trans g0, (World.cell?_of_block (Below.heap_setCell _ _ _ _ hne)).trans g1, (World.cell?_of_block (Below.heap_setCell _ _ _ _ hne)).trans g2, (World.cell?_of_block (Below.heap_setCell _ _ _ _ hne)).trans g3⟩
    clear hK K
    try simp only [Act.put, List.setIfInBounds_toArray, List.set_cons_zero, List.set_cons_succ]
    refine wpAnyH_done (by kernel_rfl) ?_ _
    refine NoPanic.normal ?_
    go_end0
    rw [hy.out, show (ls ++ [rdStep x0 x1 x2 x3]).length = ls.length + 1 by simp] at hR1
    exact ⟨rfl, ⟨_, blk_set HG1.out 8 _, Kd.R_far (p := ⟨g, 8, none⟩) hR1 (fun k hk => hk) _⟩, (Save.of_row (⟨hG1.os, hG1.tape, hG1.output, hG1.size, hG1.block⟩ : w.grownBy w1 _) (Kd.R_base HR.out) (Kd.R_typed HR.out) (by simp)).trans (Save.of_grown (grown_set (W := w1) (p := ⟨g, 8, none⟩) (Below.refl _ _) rfl _) (by simp))⟩
  · refine AllReadyH.cons (o := { dst := some 22, op := Op.buildSlice 24 1 #[(0, Operand.tmp 21)], type := 24, pos := "tfm.go:164", after := #[{ on := 18, ground := Ground.data }], guard := none }) rfl (fun K hK => ?_) AllReadyH.nil
    go_simp
    refine hK.out _ _ ?_ (fun hHeld => ?_)
    · go_keep
    clear hK K
    try simp only [Act.put, List.setIfInBounds_toArray, List.set_cons_zero, List.set_cons_succ]
    refine wpAnyH_ready (rs := [1]) (by kernel_rfl) (by simp) ?_
    refine AllReadyH.cons (o := { dst := some 4, op := Op.load 24 (Operand.tmp 3), type := 24, pos := "tfm.go:164", after := #[{ on := 0, ground := Ground.data }], guard := none }) rfl (fun K hK => ?_) AllReadyH.nil
    go_simp
    refine hK.out _ _ ?_ (fun hHeld => ?_)
    · go_keep
    clear hK K
    try simp only [Act.put, List.setIfInBounds_toArray, List.set_cons_zero, List.set_cons_succ]
    refine wpAnyH_ready (rs := [20]) (by kernel_rfl) (by simp) ?_
    refine AllReadyH.cons (o := { dst := some 23, op := Op.call { callee := Callee.builtin Builtin.append, args := #[Operand.tmp 4, Operand.tmp 22], argTypes := #[24, 24] }, type := 24, pos := "tfm.go:164", after := #[{ on := 1, ground := Ground.data }, { on := 19, ground := Ground.data }], guard := none }) rfl (fun K hK => ?_) AllReadyH.nil
    refine Kd.R_append_step kStep (w0 := w.drew) (W := w.drew) base (by rfl) (.tmp 4) (.tmp 22) 24 50 (.agg #[.int .i64 0, .int .i64 0, .int .i64 0, .int .i64 0]) 32 rfl Try.underlying24 info_step rfl (by decide) (by omega) (.slice A1 ls.length c1) ls ⟨IntKind.i64.wrap x0, IntKind.i64.wrap x1, IntKind.i64.wrap x2, IntKind.i64.wrap x3⟩ [.int .i64 (IntKind.i64.wrap x0), .int .i64 (IntKind.i64.wrap x1), .int .i64 (IntKind.i64.wrap x2), .int .i64 (IntKind.i64.wrap x3)] (fun k => k ≠ g) (fun _ => False) (by rfl) (by rfl) (kStep_M _ _ _ _) (fun _ h => h.elim) (fun k hk => by have : w.heap.size ≤ k := hk; omega) (Kd.R_drew HR.out) (Below.refl _ _) (by show base ≤ w.heap.size; omega) (by omega) ?_; intro v1 w1 hR1 hB1 hG1 hat1; obtain ⟨A2, c2, hv2⟩ := Kd.R_slice hR1; subst hv2; have HG1 := aside (blk_grown (blk_drew HG.out) hG1 HNE.out.1); have hf1 := blk_frozen HG1.out 8; have hk1 := (blk_cell HG1.out 8).trans HV.out; have g0 := hG1.cell (show w.drew.cell? _ = _ from e0) HNE.out.2; have g1 := hG1.cell (show w.drew.cell? _ = _ from e1) HNE.out.2; have g2 := hG1.cell (show w.drew.cell? _ = _ from e2) HNE.out.2; have g3 := hG1.cell (show w.drew.cell? _ = _ from e3) HNE.out.2
    refine hK.out _ _ ?_ (fun hHeld => ?_)
    · exact ⟨g0, g1, g2, g3⟩
    clear hK K
    try simp only [Act.put, List.setIfInBounds_toArray, List.set_cons_zero, List.set_cons_succ]
    refine wpAnyH_take (i := 21) (oi := { dst := some 24, op := Op.fieldAddr 26 (Operand.tmp 1) 8, type := 0, pos := "tfm.go:164", after := #[{ on := 0, ground := Ground.phase }, { on := 1, ground := Ground.phase }, { on := 2, ground := Ground.phase }, { on := 3, ground := Ground.phase }, { on := 4, ground := Ground.phase }, { on := 5, ground := Ground.phase }, { on := 6, ground := Ground.phase }, { on := 7, ground := Ground.phase }, { on := 8, ground := Ground.phase }, { on := 9, ground := Ground.phase }, { on := 10, ground := Ground.phase }, { on := 11, ground := Ground.phase }, { on := 12, ground := Ground.phase }, { on := 13, ground := Ground.phase }, { on := 14, ground := Ground.phase }, { on := 15, ground := Ground.phase }, { on := 16, ground := Ground.phase }, { on := 17, ground := Ground.phase }, { on := 18, ground := Ground.phase }, { on := 19, ground := Ground.phase }, { on := 20, ground := Ground.phase }], guard := none }) (v := ?_) rfl (by kernel_rfl) (by kernel_rfl) (by kernel_rfl) (fun _ _ _ h => h) (Or.inl ⟨by rfl, ?_⟩) (by assumption) ?_
    rotate_left
    · intro w hSw; (try dsimp only at hSw); go_simp; (try with_reducible rfl)
    try simp only [Act.put, List.setIfInBounds_toArray, List.set_cons_zero, List.set_cons_succ]
    refine wpAnyH_ready (rs := [22]) (by kernel_rfl) (by simp) ?_
    refine AllReadyH.cons (o := { dst := none, op := Op.store 24 (Operand.tmp 24) (Operand.tmp 23), type := 0, pos := "tfm.go:164", after := #[{ on := 21, ground := Ground.data }, { on := 20, ground := Ground.data }, { on := 20, ground := Ground.chain }, { on := 0, ground := Ground.phase }, { on := 1, ground := Ground.phase }, { on := 2, ground := Ground.phase }, { on := 3, ground := Ground.phase }, { on := 4, ground := Ground.phase }, { on := 5, ground := Ground.phase }, { on := 6, ground := Ground.phase }, { on := 7, ground := Ground.phase }, { on := 8, ground := Ground.phase }, { on := 9, ground := Ground.phase }, { on := 10, ground := Ground.phase }, { on := 11, ground := Ground.phase }, { on := 12, ground := Ground.phase }, { on := 13, ground := Ground.phase }, { on := 14, ground := Ground.phase }, { on := 15, ground := Ground.phase }, { on := 16, ground := Ground.phase }, { on := 17, ground := Ground.phase }, { on := 18, ground := Ground.phase }, { on := 19, ground := Ground.phase }, { on := 20, ground := Ground.phase }], guard := none }) rfl (fun K hK => ?_) AllReadyH.nil
    go_simp
    refine hK.out _ _ ?_ (fun hHeld => ?_)
    · exact ⟨(World.cell?_of_block (Below.heap_setCell _ _ _ _ hne)).trans g0, (World.cell?_of_block (Below.heap_setCell _ _ _ _ hne)).trans g1, (World.cell?_of_block (Below.heap_setCell _ _ _ _ hne)).trans g2, (World.cell?_of_block (Below.heap_setCell _ _ _ _ hne)).trans g3⟩
    clear hK K
    try simp only [Act.put, List.setIfInBounds_toArray, List.set_cons_zero, List.set_cons_succ]
    refine wpAnyH_done (by kernel_rfl) ?_ _
    refine NoPanic.normal ?_
    go_end0
    rw [hy.out, show (ls ++ [rdStep x0 x1 x2 x3]).length = ls.length + 1 by simp] at hR1
    exact ⟨rfl, ⟨_, blk_set HG1.out 8 _, Kd.R_far (p := ⟨g, 8, none⟩) hR1 (fun k hk => hk) _⟩, (Save.of_row (⟨hG1.os, hG1.tape, hG1.output, hG1.size, hG1.block⟩ : w.grownBy w1 _) (Kd.R_base HR.out) (Kd.R_typed HR.out) (by simp)).trans (Save.of_grown (grown_set (W := w1) (p := ⟨g, 8, none⟩) (Below.refl _ _) rfl _) (by simp))⟩

end Go.Proofs.Ytllllmhekdcbiaa
