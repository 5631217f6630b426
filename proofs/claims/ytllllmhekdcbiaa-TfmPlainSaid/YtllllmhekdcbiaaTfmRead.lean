/- tfm's Read, walked. -/
import Derived.Test.YtllllmhekdcbiaaTfmRdSt
set_option linter.unusedVariables false
set_option linter.unusedSimpArgs false
namespace Go.Proofs.Ytllllmhekdcbiaa
open Go.RowKit Go.Proofs.YtllllmhekdcbiaaW.PrintWords

def zeroFont : Value := .agg #[.int .i64 0, .int .i64 0, .int .i64 0, .slice none 0 0, .slice none 0 0, .slice none 0 0, .slice none 0 0, .slice none 0 0, .slice none 0 0, .slice none 0 0, .slice none 0 0]
def zeroCells : Array Value := #[.int .i64 0, .int .i64 0, .int .i64 0, .slice none 0 0, .slice none 0 0, .slice none 0 0, .slice none 0 0, .slice none 0 0, .slice none 0 0, .slice none 0 0, .slice none 0 0]
/-- What Read answers. -/
def RdPost (w : World) (r : Option FontR) (e : Ending) (w' : World) : Prop :=
  Below w.heap.size w w' ∧ match r with
  | none => e = .returned (.tuple #[zeroFont, .int .i64 70])
  | some F => ∃ v3 v4 v5 v6 v7 v8 v9 v10, e = .returned (.tuple #[.agg #[.int .i64 F.s, .int .i64 F.d, .int .i64 F.f, v3, v4, v5, v6, v7, v8, v9, v10], .int .i64 0]) ∧
    kChar.R 40 w' w.heap.size (fun _ => True) v3 F.l3 ∧ (Kd.int .i64).R 3 w' w.heap.size (fun _ => True) v4 F.l4 ∧ (Kd.int .i64).R 3 w' w.heap.size (fun _ => True) v5 F.l5 ∧ (Kd.int .i64).R 3 w' w.heap.size (fun _ => True) v6 F.l6 ∧ (Kd.int .i64).R 3 w' w.heap.size (fun _ => True) v7 F.l7 ∧
    kStep.R 50 w' w.heap.size (fun _ => True) v8 F.l8 ∧ (Kd.int .i64).R 3 w' w.heap.size (fun _ => True) v9 F.l9 ∧ (Kd.int .i64).R 3 w' w.heap.size (fun _ => True) v10 F.l10

theorem src_old {w : World} {A : Option Addr} {l : List Int} (hC : (Kd.int .u8).C w A l.length l) : Src w w.heap.size A l := ⟨hC, fun ad e hp => .inl (by
  obtain ⟨ad', e', hF⟩ := int_cells' hC hp
  rw [e] at e'; cases e'
  have := World.block_lt_of_cell? w _ (hF 0 hp)
  rwa [add_block] at this)⟩

/-- What holds while bytes are read: old memory, the result's block, the bytes' one. -/
structure RSt (w W : World) (br bi : Nat) (l : List Int) (bad : Bool) : Prop where
  below : Below w.heap.size w W
  res : W.heap[br]? = some (.cells zeroCells 26 (0, 0))
  inn : InIs W w.heap.size bi l bad
  le : w.heap.size ≤ br
  ne : br ≠ bi
  by' : Bytes l
  len : l.length ≤ 1000000
theorem RSt.lt {w W : World} {br bi : Nat} {l : List Int} {bad : Bool} (h : RSt w W br bi l bad) : br < W.heap.size ∧ bi < W.heap.size := ⟨blk_lt h.res, h.inn.lt⟩
theorem RSt.low {w W : World} {br bi : Nat} {l : List Int} {bad : Bool} (h : RSt w W br bi l bad) : w.heap.size ≤ bi := by
  obtain ⟨A, c, _, h, _⟩ := h.inn; exact h
/-- The bytes' block was written. -/
theorem RSt.next {w W W' : World} {br bi : Nat} {l l' : List Int} {bad bad' : Bool} (h : RSt w W br bi l bad) (hI : InIs W' w.heap.size bi l' bad') (hg : W.grownBy W' (some bi)) (hb : Bytes l' ∧ l'.length ≤ l.length) : RSt w W' br bi l' bad' :=
  ⟨h.below.grown hg h.below.size (fun k hk => by cases hk; exact h.low), blk_grown h.res hg (by simpa using h.ne), hI, h.le, h.ne, hb.1, Nat.le_trans hb.2 h.len⟩
/-- New memory. -/
theorem RSt.new {w W W' : World} {br bi : Nat} {l : List Int} {bad : Bool} (h : RSt w W br bi l bad) (hB : Below W.heap.size W W') : RSt w W' br bi l bad :=
  ⟨below_then h.below h.below.size hB, blk_below h.res hB, h.inn.below hB, h.le, h.ne, h.by', h.len⟩
/-- Another block was written. -/
theorem RSt.other {w W W' : World} {br bi b t : Nat} {l : List Int} {bad : Bool} {cs : Array Value} (h : RSt w W br bi l bad) (hg : W.grownBy W' (some b)) (hb : W.heap[b]? = some (.cells cs t (0, 0))) (ht : t ≠ 5) (h0 : w.heap.size ≤ b) (h1 : br ≠ b) (h2 : bi ≠ b) : RSt w W' br bi l bad :=
  ⟨h.below.grown hg h.below.size (fun k hk => by cases hk; exact h0), blk_grown h.res hg (by simpa using h1), h.inn.other hg hb ht h0 h2, h.le, h.ne, h.by', h.len⟩

/-- So, with the font's block and that of the numbers. -/
structure RS2 (w W : World) (br bi bg bm : Nat) (l : List Int) (bad : Bool) (F : FontR) (m : List Int) : Prop where
  st : RSt w W br bi l bad
  font : FontIs W w.heap.size bg F
  many : W.heap[bm]? = some (.cells (m.map (Value.int .i64)).toArray 55 (0, 0))
  lem : w.heap.size ≤ bm
  n1 : br ≠ bg
  n2 : br ≠ bm
  n3 : bi ≠ bg
  n4 : bi ≠ bm
  n5 : bg ≠ bm
theorem RS2.next {w W W' : World} {br bi bg bm : Nat} {l l' : List Int} {bad bad' : Bool} {F : FontR} {m : List Int} (h : RS2 w W br bi bg bm l bad F m) (hI : InIs W' w.heap.size bi l' bad') (hg : W.grownBy W' (some bi)) (hb : Bytes l' ∧ l'.length ≤ l.length) : RS2 w W' br bi bg bm l' bad' F m := by
  obtain ⟨A, c, h1, _⟩ := h.st.inn
  exact ⟨h.st.next hI hg hb, h.font.grown hg h1 h.n3 (by decide) (by decide) (by decide), blk_grown h.many hg (by simpa using fun e => h.n4 e.symm), h.lem, h.n1, h.n2, h.n3, h.n4, h.n5⟩
theorem RS2.new {w W W' : World} {br bi bg bm : Nat} {l : List Int} {bad : Bool} {F : FontR} {m : List Int} (h : RS2 w W br bi bg bm l bad F m) (hB : Below W.heap.size W W') : RS2 w W' br bi bg bm l bad F m :=
  ⟨h.st.new hB, h.font.below hB, blk_below h.many hB, h.lem, h.n1, h.n2, h.n3, h.n4, h.n5⟩
theorem RS2.setm {w W : World} {br bi bg bm : Nat} {l : List Int} {bad : Bool} {F : FontR} {m : List Int} (h : RS2 w W br bi bg bm l bad F m) (k : Nat) (y : Int) : RS2 w (W.setCell ⟨bm, k, none⟩ (.int .i64 y)) br bi bg bm l bad F (m.set k y) := by
  have hg := grown_set (W := W) (p := ⟨bm, k, none⟩) (Below.refl _ _) rfl (.int .i64 y)
  have hs := blk_set h.many k (.int .i64 y)
  refine ⟨h.st.other hg h.many (by decide) h.lem h.n2 h.n4, h.font.grown hg h.many h.n5.symm (by decide) (by decide) (by decide), ?_, h.lem, h.n1, h.n2, h.n3, h.n4, h.n5⟩
  rw [hs]
  simp [List.map_set]
/-- The font's block was written: a row made since was put there. -/
theorem RS2.setf {w W : World} {br bi bg bm k : Nat} {l : List Int} {bad : Bool} {F F' : FontR} {m : List Int} {u : Value} (h : RS2 w W br bi bg bm l bad F m) (hF : FontIs (W.setCell ⟨bg, k, none⟩ u) w.heap.size bg F') : RS2 w (W.setCell ⟨bg, k, none⟩ u) br bi bg bm l bad F' m := by
  have hg := grown_set (W := W) (p := ⟨bg, k, none⟩) (Below.refl _ _) rfl u
  obtain ⟨cs, hc⟩ := h.font.has
  exact ⟨h.st.other hg hc (by decide) h.font.le h.n1 h.n3, hF, blk_grown h.many hg (by simpa using fun e => h.n5 e.symm), h.lem, h.n1, h.n2, h.n3, h.n4, h.n5⟩
/-- The font's block, and rows of a type, were written. -/
theorem RS2.save {w W W' : World} {br bi bg bm : Nat} {T : List TypeId} {l l' : List Int} {bad bad' : Bool} {F F' : FontR} {m : List Int} (h : RS2 w W br bi bg bm l bad F m) (hs : Save [bi, bg] T w.heap.size W W') (hI : InIs W' w.heap.size bi l' bad') (hb : Bytes l' ∧ l'.length ≤ l.length) (hF : FontIs W' w.heap.size bg F') (t1 : 26 ∉ T) (t2 : 55 ∉ T) : RS2 w W' br bi bg bm l' bad' F' m := by
  have hX : ∀ q, q ∈ [bi, bg] → w.heap.size ≤ q := by
    intro q hq
    simp only [List.mem_cons, List.not_mem_nil, or_false] at hq
    rcases hq with rfl | rfl
    · exact h.st.low
    · exact h.font.le
  exact ⟨⟨hs.below h.st.below h.st.below.size hX, hs.at h.st.res (by simp [h.st.ne, h.n1]) t1, hI, h.st.le, h.st.ne, hb.1, Nat.le_trans hb.2 h.st.len⟩, hF, hs.at h.many (by simp [h.n4.symm, h.n5.symm]) t2, h.lem, h.n1, h.n2, h.n3, h.n4, h.n5⟩
theorem set_snoc {xs : List Int} {k n : Nat} (y : Int) (hk : xs.length = k) (hn : k < n) : (xs ++ List.replicate (n - k) 0).set k y = (xs ++ [y]) ++ List.replicate (n - (k + 1)) 0 := by
  obtain ⟨d, hd⟩ : ∃ d, n - k = d + 1 := ⟨n - k - 1, by omega⟩
  rw [show n - (k + 1) = d by omega, hd]
  subst hk
  simp [List.set_append, List.replicate_succ]
theorem many_at {xs : List Int} {k n : Nat} (hk : xs.length = k) (hn : k < n) : (((xs ++ List.replicate (n - k) 0).map (Value.int .i64)).toArray)[k]? = some (.int .i64 0) := by
  obtain ⟨d, hd⟩ : ∃ d, n - k = d + 1 := ⟨n - k - 1, by omega⟩
  rw [hd]
  subst hk
  simp [List.replicate_succ]
theorem FontIs.nums {W : World} {base g : Nat} {F : FontR} (h : FontIs W base g F) : W.cell? ⟨g, 0, none⟩ = some (.int .i64 F.s) ∧ W.cell? ⟨g, 1, none⟩ = some (.int .i64 F.d) ∧ W.cell? ⟨g, 2, none⟩ = some (.int .i64 F.f) ∧ (∃ v, W.cell? ⟨g, 4, none⟩ = some v) ∧ (∃ v, W.cell? ⟨g, 5, none⟩ = some v) ∧ (∃ v, W.cell? ⟨g, 6, none⟩ = some v) ∧ (∃ v, W.cell? ⟨g, 7, none⟩ = some v) ∧ (∃ v, W.cell? ⟨g, 9, none⟩ = some v) ∧ (∃ v, W.cell? ⟨g, 10, none⟩ = some v) := by
  obtain ⟨v3, v4, v5, v6, v7, v8, v9, v10, hb, _⟩ := h
  exact ⟨(blk_cell hb 0).trans rfl, (blk_cell hb 1).trans rfl, (blk_cell hb 2).trans rfl, ⟨v4, (blk_cell hb 4).trans rfl⟩, ⟨v5, (blk_cell hb 5).trans rfl⟩, ⟨v6, (blk_cell hb 6).trans rfl⟩, ⟨v7, (blk_cell hb 7).trans rfl⟩, ⟨v9, (blk_cell hb 9).trans rfl⟩, ⟨v10, (blk_cell hb 10).trans rfl⟩⟩
theorem getD_mem {xs : List Int} (k : Nat) (hk : k < xs.length) : xs.getD k 0 ∈ xs := by
  rw [List.getD_eq_getElem?_getD, List.getElem?_eq_getElem hk]
  exact List.getElem_mem hk
theorem getD_get {xs : List Int} (k : Nat) (hk : k < xs.length) : Option.map (Value.int .i64) xs[k]? = some (.int .i64 (xs.getD k 0)) := by
  rw [List.getD_eq_getElem?_getD, List.getElem?_eq_getElem hk]; rfl
/-- What is still to read behind so many tables. -/
def rdAt (kk : Nat) (m : List Int) (F : FontR) (l : List Int) (bad : Bool) : Option FontR :=
  match kk with
  | 0 => rd4 m F (tkFixes (m.getD 0 0).toNat l bad)
  | 1 => rd5 m F (tkFixes (m.getD 1 0).toNat l bad)
  | 2 => rd6 m F (tkFixes (m.getD 2 0).toNat l bad)
  | 3 => rd7 m F (tkFixes (m.getD 3 0).toNat l bad)
  | _ => rdS m F (tkEach (m.getD 4 0).toNat l bad)
/-- A number of those read, as a count. -/
theorem many_num {w W : World} {br bi bg bm : Nat} {l : List Int} {bad : Bool} {F : FontR} {m : List Int} (h : RS2 w W br bi bg bm l bad F m) (k : Nat) (hk : k < m.length) (hm : ∀ x, x ∈ m → 0 ≤ x ∧ x < 65536) : ∃ n : Nat, m.getD k 0 = n ∧ n ≤ 65536 ∧ W.cell? ⟨bm, k, none⟩ = some (.int .i64 n) := by
  have hr := hm _ (getD_mem k hk)
  obtain ⟨n, hn⟩ := Int.eq_ofNat_of_zero_le hr.1
  refine ⟨n, hn, by omega, ?_⟩
  rw [← hn, blk_cell h.many k, List.getElem?_toArray, List.getElem?_map]
  exact getD_get k hk
theorem font_cells {W : World} {b : Nat} {x0 x1 x2 : Int} {v3 v4 v5 v6 v7 v8 v9 v10 : Value} (h : W.heap[b]? = some (.cells #[.int .i64 x0, .int .i64 x1, .int .i64 x2, v3, v4, v5, v6, v7, v8, v9, v10] 26 (0, 0))) : W.cell? ⟨b, 0, none⟩ = some (.int .i64 x0) ∧ W.cell? ⟨b, 1, none⟩ = some (.int .i64 x1) ∧ W.cell? ⟨b, 2, none⟩ = some (.int .i64 x2) ∧ W.cell? ⟨b, 3, none⟩ = some v3 ∧ W.cell? ⟨b, 4, none⟩ = some v4 ∧ W.cell? ⟨b, 5, none⟩ = some v5 ∧ W.cell? ⟨b, 6, none⟩ = some v6 ∧ W.cell? ⟨b, 7, none⟩ = some v7 ∧ W.cell? ⟨b, 8, none⟩ = some v8 ∧ W.cell? ⟨b, 9, none⟩ = some v9 ∧ W.cell? ⟨b, 10, none⟩ = some v10 :=
  ⟨(blk_cell h 0).trans rfl, (blk_cell h 1).trans rfl, (blk_cell h 2).trans rfl, (blk_cell h 3).trans rfl, (blk_cell h 4).trans rfl, (blk_cell h 5).trans rfl, (blk_cell h 6).trans rfl, (blk_cell h 7).trans rfl, (blk_cell h 8).trans rfl, (blk_cell h 9).trans rfl, (blk_cell h 10).trans rfl⟩
theorem set_grown (W : World) (b : Nat) (vs : List Value) : W.grownBy (W.setCells b 0 vs) (some b) := by
  obtain ⟨s1, s2, s3, s4⟩ := setCells_same b vs 0 W
  exact ⟨s1, s2, s3, by rw [s4]; exact Nat.le_refl _, fun k hk hne => setCells_far vs 0 k (by simpa using hne)⟩
theorem zero_cells {W : World} {b : Nat} (h : W.heap[b]? = some (.cells zeroCells 26 (0, 0))) : W.cell? ⟨b, 0, none⟩ = some (.int .i64 0) ∧ W.cell? ⟨b, 1, none⟩ = some (.int .i64 0) ∧ W.cell? ⟨b, 2, none⟩ = some (.int .i64 0) ∧ W.cell? ⟨b, 3, none⟩ = some (.slice none 0 0) ∧ W.cell? ⟨b, 4, none⟩ = some (.slice none 0 0) ∧ W.cell? ⟨b, 5, none⟩ = some (.slice none 0 0) ∧ W.cell? ⟨b, 6, none⟩ = some (.slice none 0 0) ∧ W.cell? ⟨b, 7, none⟩ = some (.slice none 0 0) ∧ W.cell? ⟨b, 8, none⟩ = some (.slice none 0 0) ∧ W.cell? ⟨b, 9, none⟩ = some (.slice none 0 0) ∧ W.cell? ⟨b, 10, none⟩ = some (.slice none 0 0) :=
  ⟨(blk_cell h 0).trans rfl, (blk_cell h 1).trans rfl, (blk_cell h 2).trans rfl, (blk_cell h 3).trans rfl, (blk_cell h 4).trans rfl, (blk_cell h 5).trans rfl, (blk_cell h 6).trans rfl, (blk_cell h 7).trans rfl, (blk_cell h 8).trans rfl, (blk_cell h 9).trans rfl, (blk_cell h 10).trans rfl⟩
theorem zero_frozen {W : World} {b : Nat} {cs : Array Value} (h : W.heap[b]? = some (.cells cs 26 (0, 0))) : W.frozen? ⟨b, 0, none⟩ = false ∧ W.frozen? ⟨b, 1, none⟩ = false ∧ W.frozen? ⟨b, 2, none⟩ = false ∧ W.frozen? ⟨b, 3, none⟩ = false ∧ W.frozen? ⟨b, 4, none⟩ = false ∧ W.frozen? ⟨b, 5, none⟩ = false ∧ W.frozen? ⟨b, 6, none⟩ = false ∧ W.frozen? ⟨b, 7, none⟩ = false ∧ W.frozen? ⟨b, 8, none⟩ = false ∧ W.frozen? ⟨b, 9, none⟩ = false ∧ W.frozen? ⟨b, 10, none⟩ = false :=
  ⟨blk_frozen h 0, blk_frozen h 1, blk_frozen h 2, blk_frozen h 3, blk_frozen h 4, blk_frozen h 5, blk_frozen h 6, blk_frozen h 7, blk_frozen h 8, blk_frozen h 9, blk_frozen h 10⟩
theorem set_again {W : World} {b : Nat} {cs : Array Value} {t : TypeId} (vs : List Value) (h : W.heap[b]? = some (.cells cs t (0, 0))) (hl : vs.length = cs.size) : (W.setCells b 0 vs).heap[b]? = some (.cells vs.toArray t (0, 0)) := by
  obtain ⟨cur', h1, h2, h3⟩ := setCells_row vs 0 W cs h (by omega)
  rw [h1]
  have : cur' = vs.toArray := by
    apply Array.toList_inj.1
    rw [h3, hl]
    have : cs.size ≤ cs.toList.length := by simp
    simp [List.drop_eq_nil_of_le]
  rw [this]
theorem nest11 (W : World) (b : Nat) (v0 v1 v2 v3 v4 v5 v6 v7 v8 v9 v10 : Value) : (((((((((((W.setCell ⟨b, 0, none⟩ v0).setCell ⟨b, 1, none⟩ v1).setCell ⟨b, 2, none⟩ v2).setCell ⟨b, 3, none⟩ v3).setCell ⟨b, 4, none⟩ v4).setCell ⟨b, 5, none⟩ v5).setCell ⟨b, 6, none⟩ v6).setCell ⟨b, 7, none⟩ v7).setCell ⟨b, 8, none⟩ v8).setCell ⟨b, 9, none⟩ v9).setCell ⟨b, 10, none⟩ v10) = W.setCells b 0 [v0, v1, v2, v3, v4, v5, v6, v7, v8, v9, v10] := by
  simp only [World.setCells]
theorem zero_again {W : World} {b : Nat} (h : W.heap[b]? = some (.cells zeroCells 26 (0, 0))) : (W.setCells b 0 [.int .i64 0, .int .i64 0, .int .i64 0, .slice none 0 0, .slice none 0 0, .slice none 0 0, .slice none 0 0, .slice none 0 0, .slice none 0 0, .slice none 0 0, .slice none 0 0]).heap[b]? = some (.cells zeroCells 26 (0, 0)) := set_again _ h rfl
theorem set_below {B : Nat} {w W : World} {b : Nat} (h : Below B w W) (hb : B ≤ b) (vs : List Value) : Below B w (W.setCells b 0 vs) := by
  obtain ⟨s1, s2, s3, s4⟩ := setCells_same b vs 0 W
  exact ⟨s1.trans h.os, s2.trans h.tape, s3.trans h.output, by rw [s4]; exact h.size, fun k hk => (setCells_far vs 0 k (by omega)).trans (h.block k hk)⟩

set_option maxHeartbeats 8000000 in
set_option maxRecDepth 100000 in
theorem read_any (A : Option Addr) (c : Nat) (l : List Int) (w : World) (hC : (Kd.int .u8).C w A l.length l) (hc : l.length ≤ c) (hby : Bytes l) (hl : l.length ≤ 1000000) :
    Calls Try.prog 10 #[.slice A l.length c] w fun e w' => RdPost w (rdA l) e w' := by
  have HS := aside (src_old hC)
  have HBY := aside hby
  generalize hr : rdA l = r
  have HQ := aside hr.symm
  clear hC hby hr
  go_enter Try.func10, Try.ntmps10
  -- WALK
  by_cases h4 : l.length % 4 = 0
  · have h4z : (l.length : Int) % 4 = 0 := by omega
    replace HQ := aside (HQ.out.trans (if_pos h4))
    go_wp2_with fail
    obtain ⟨W, hW⟩ : ∃ W, W = (w.alloc (.cells zeroCells 26)).alloc (.cells #[.slice A l.length c, .bool false] 53) := ⟨_, rfl⟩
    have H := aside (show RSt w W w.heap.size (w.heap.size + 1) l false by
      have h1 := blk_new (w.alloc (.cells zeroCells 26)) (.cells #[.slice A l.length c, .bool false] 53)
      rw [← hW] at h1
      have hB : Below w.heap.size w W := by rw [hW]; exact (below_alloc (Below.refl _ _) _).alloc (by simp) _
      refine ⟨hB, by rw [hW]; exact blk_alloc (blk_new _ _) _, ⟨A, c, by simpa using h1, by omega, hc, ?_⟩, by omega, by omega, HBY.out, hl⟩
      exact HS.out.below hB)
    have hWs : Calls Try.prog 16 #[.pointer (some ⟨w.heap.size + 1, 0, none⟩)] W = Calls Try.prog 16 #[.pointer (some ⟨w.heap.size + 1, 0, none⟩)] ((w.alloc (.cells zeroCells 26)).alloc (.cells #[.slice A l.length c, .bool false] 53)) := by rw [hW]
    unfold zeroCells at hW
    rw [← hW]
    clear hW hWs HS HBY
    generalize w.heap.size + 1 = bi at H ⊢
    obtain ⟨br, hbr⟩ : ∃ br, br = w.heap.size := ⟨_, rfl⟩
    rw [← hbr] at H ⊢
    clear hbr
    refine (itwo_any w.heap.size bi l false W H.out.inn H.out.by' H.out.len H.out.below.size).mono ?_
    rintro e w1 ⟨rfl, hI, hG⟩
    have hk := tk_keeps 2 false H.out.by'
    have hrg := tk_range 2 false H.out.by'
    replace H := aside (H.out.next hI hG hk)
    clear hI hG hk
    generalize tk 2 l false = t1 at H HQ hrg ⊢
    obtain ⟨x1, l1, b1⟩ := t1
    dsimp only at H hrg ⊢
    by_cases hq : x1 = ((l.length / 4 : Nat) : Int)
    rotate_left
    · replace HQ := aside (HQ.out.trans (if_neg hq))
      obtain ⟨z0, z1, z2, z3, z4, z5, z6, z7, z8, z9, z10⟩ := zero_cells H.out.res
      obtain ⟨f0, f1, f2, f3, f4, f5, f6, f7, f8, f9, f10⟩ := zero_frozen H.out.res
      go_wp2_with fail
      rw [nest11]
      refine bodyPost_ret (results_ct rfl _ _ br 26 zeroCells (0, 0) _ rfl (zero_again H.out.res) Try.underlying26 rfl (by kernel_rfl)) rfl ?_
      rw [HQ.out]
      exact ⟨set_below H.out.below H.out.le _, rfl⟩
    replace HQ := aside (HQ.out.trans (if_pos hq))
    go_wp2_with fail
    refine (itwo_any w.heap.size bi l1 b1 w1 H.out.inn H.out.by' H.out.len H.out.below.size).mono ?_
    rintro e w2 ⟨rfl, hI, hG⟩
    have hk := tk_keeps 2 b1 H.out.by'
    have hrg := tk_range 2 b1 H.out.by'
    replace H := aside (H.out.next hI hG hk)
    clear hI hG hk
    generalize tk 2 l1 b1 = t2 at H HQ hrg ⊢
    obtain ⟨x2, l2, b2⟩ := t2
    dsimp only at H hrg ⊢
    clear hq
    by_cases hq : x2 = 2
    rotate_left
    · replace HQ := aside (HQ.out.trans (if_neg hq))
      obtain ⟨z0, z1, z2, z3, z4, z5, z6, z7, z8, z9, z10⟩ := zero_cells H.out.res
      obtain ⟨f0, f1, f2, f3, f4, f5, f6, f7, f8, f9, f10⟩ := zero_frozen H.out.res
      go_wp2_with fail
      rw [nest11]
      refine bodyPost_ret (results_ct rfl _ _ br 26 zeroCells (0, 0) _ rfl (zero_again H.out.res) Try.underlying26 rfl (by kernel_rfl)) rfl ?_
      rw [HQ.out]
      exact ⟨set_below H.out.below H.out.le _, rfl⟩
    replace HQ := aside (HQ.out.trans (if_pos hq))
    go_wp2_with fail
    refine (itwo_any w.heap.size bi l2 b2 w2 H.out.inn H.out.by' H.out.len H.out.below.size).mono ?_
    rintro e w3 ⟨rfl, hI, hG⟩
    have hk := tk_keeps 2 b2 H.out.by'
    have hrg := tk_range 2 b2 H.out.by'
    replace H := aside (H.out.next hI hG hk)
    clear hI hG hk
    generalize tk 2 l2 b2 = t3 at H HQ hrg ⊢
    obtain ⟨x3, l3, b3⟩ := t3
    dsimp only at H hrg ⊢
    replace HQ := aside (HQ.out.trans (show _ = rdF x3 (tk 2 l3 b3) from rfl))
    have hrf := hrg
    clear hrg hq
    go_wp2_with fail
    obtain ⟨W4, hW4⟩ : ∃ W4, W4 = w3.alloc (.cells #[.int .i64 0, .int .i64 0, .int .i64 x3, .slice none 0 0, .slice none 0 0, .slice none 0 0, .slice none 0 0, .slice none 0 0, .slice none 0 0, .slice none 0 0, .slice none 0 0] 26) := ⟨_, rfl⟩
    have hB4 : Below w3.heap.size w3 W4 := by rw [hW4]; exact below_alloc (Below.refl _ _) _
    have hF4 := aside (show FontIs W4 w.heap.size w3.heap.size ⟨0, 0, x3, [], [], [], [], [], [], [], []⟩ by
      rw [hW4]
      exact ⟨_, _, _, _, _, _, _, _, blk_new _ _, H.out.below.size, Kd.R_nil _ _ _ _ _, Kd.R_nil _ _ _ _ _, Kd.R_nil _ _ _ _ _, Kd.R_nil _ _ _ _ _, Kd.R_nil _ _ _ _ _, Kd.R_nil _ _ _ _ _, Kd.R_nil _ _ _ _ _, Kd.R_nil _ _ _ _ _⟩)
    rw [← hW4]
    have hlt3 := H.out.lt
    replace H := aside (H.out.new hB4)
    generalize hbg : w3.heap.size = bg at hF4 hlt3 ⊢
    clear hW4 hB4 hbg
    refine (itwo_any w.heap.size bi l3 b3 W4 H.out.inn H.out.by' H.out.len H.out.below.size).mono ?_
    rintro e w4 ⟨rfl, hI, hG⟩
    have hk := tk_keeps 2 b3 H.out.by'
    have hrg := tk_range 2 b3 H.out.by'
    obtain ⟨A0, c0, hb0, _, _, _⟩ := H.out.inn
    have hF := aside (hF4.out.grown hG hb0 (Nat.ne_of_lt hlt3.2) (by decide) (by decide) (by decide))
    clear hF4 hb0
    replace H := aside (H.out.next hI hG hk)
    clear hI hG hk
    generalize tk 2 l3 b3 = t4 at H HQ hrg ⊢
    obtain ⟨x4, l4, b4⟩ := t4
    dsimp only at H hrg ⊢
    replace HQ := aside (HQ.out.trans (show _ = rdG x3 x4 (tkTwos 8 l4 b4) from rfl))
    have hrl := hrg
    clear hrg
    go_wp2_with fail
    obtain ⟨W5, hW5⟩ : ∃ W5, W5 = w4.alloc (.cells #[.int .i64 0, .int .i64 0, .int .i64 0, .int .i64 0, .int .i64 0, .int .i64 0, .int .i64 0, .int .i64 0] 55) := ⟨_, rfl⟩
    have hB5 : Below w4.heap.size w4 W5 := by rw [hW5]; exact below_alloc (Below.refl _ _) _
    have H2 := aside (show RS2 w W5 br bi bg w4.heap.size l4 b4 ⟨0, 0, x3, [], [], [], [], [], [], [], []⟩ (List.replicate 8 0) by
      have h1 := H.out.lt
      have h2 := hF.out.lt
      exact ⟨H.out.new hB5, hF.out.below hB5, by rw [hW5]; exact blk_new _ _, H.out.below.size, Nat.ne_of_lt hlt3.1, by omega, Nat.ne_of_lt hlt3.2, by omega, by omega⟩)
    rw [← hW5]
    generalize hbm : w4.heap.size = bm at H2 ⊢
    have hby4 := aside H.out.by'
    clear hW5 hB5 hbm hF H hlt3
    go_loopg [43] 8 (fun gg s43 wr => ∃ (kk : Nat) (xs lk : List Int) (bk : Bool), kk ≤ 8 ∧ 8 - kk ≤ gg ∧ s43 = .int .i64 kk ∧ xs.length = kk ∧ Aside (tkTwos 8 l4 b4 = (xs ++ (tkTwos (8 - kk) lk bk).1, (tkTwos (8 - kk) lk bk).2)) ∧ Aside (RS2 w wr br bi bg bm lk bk ⟨0, 0, x3, [], [], [], [], [], [], [], []⟩ (xs ++ List.replicate (8 - kk) 0)))
    case atStart => exact ⟨0, [], l4, b4, by omega, by omega, rfl, rfl, rfl, H2⟩
    case round =>
      obtain ⟨kk, xs, lk, bk, hkk, hg, rfl, hxl, HT, HR⟩ := hrel
      clear H2
      by_cases hlt : kk < 8
      · have hltz : (kk : Int) < 8 := by omega
        have HE := aside (tkTwos_step hlt HT.out)
        have hk := tk_keeps 2 bk HR.out.st.by'
        have HP := aside (itwo_any w.heap.size bi lk bk wr HR.out.st.inn HR.out.st.by' HR.out.st.len HR.out.st.below.size)
        clear HT
        go_wp2_with (go_at_call 16; refine HP.out.mono ?_; rintro e w5 ⟨rfl, hI, hG⟩; have HR5 := aside (HR.out.next hI hG hk); have k0 := (blk_cell HR5.out.many kk).trans (many_at hxl hlt); have k1 := blk_frozen HR5.out.many kk)
        go_roundg (8 - (kk + 1))
        case measure => omega
        case rel => exact ⟨kk + 1, xs ++ [(tk 2 lk bk).1], _, _, by omega, by omega, by go_num, by simp [hxl], HE.out, by rw [← set_snoc _ hxl hlt]; exact HR5.out.setm kk _⟩
      · obtain rfl : kk = 8 := by omega
        have hltz : ¬ ((8 : Nat) : Int) < 8 := by omega
        have hT := HT.out
        rw [Nat.sub_self] at hT
        rw [show tkTwos 0 lk bk = ([], lk, bk) from rfl] at hT
        simp only [List.append_nil] at hT
        have hby4 : Bytes l4 := hby4.out
        have hm := tkTwos_keeps 8 b4 hby4
        rw [hT] at hm HQ
        dsimp only at hm
        replace hm := aside hm.2.2.2
        simp only [Nat.sub_self, List.replicate_zero, List.append_nil] at HR
        clear HT hT hby4 hlt hg hkk
        have k6 := (blk_cell HR.out.many 6)
        simp only [List.getElem?_toArray, List.getElem?_map] at k6
        have hm6 := hm.out (xs.getD 6 0) (getD_mem 6 (by omega))
        rw [getD_get 6 (by omega)] at k6
        have k7 := HR.out.font.nums.2.2.1
        by_cases hq : x4 < x3
        · replace HQ := aside (HQ.out.trans (if_pos hq))
          obtain ⟨z0, z1, z2, z3, z4, z5, z6, z7, z8, z9, z10⟩ := zero_cells HR.out.st.res
          obtain ⟨f0, f1, f2, f3, f4, f5, f6, f7, f8, f9, f10⟩ := zero_frozen HR.out.st.res
          go_wp2_with fail
          rw [nest11]
          refine bodyPost_ret (results_ct rfl _ _ br 26 zeroCells (0, 0) _ rfl (zero_again HR.out.st.res) Try.underlying26 rfl (by kernel_rfl)) rfl ?_
          rw [HQ.out]
          exact ⟨set_below HR.out.st.below HR.out.st.le _, rfl⟩
        by_cases hq6 : xs.getD 6 0 = 0
        rotate_left
        · replace HQ := aside (HQ.out.trans ((if_neg hq).trans (if_neg hq6)))
          generalize xs.getD 6 0 = z6 at k6 hq6
          obtain ⟨z0, z1, z2, z3, z4, z5, z6, z7, z8, z9, z10⟩ := zero_cells HR.out.st.res
          obtain ⟨f0, f1, f2, f3, f4, f5, f6, f7, f8, f9, f10⟩ := zero_frozen HR.out.st.res
          go_wp2_with fail
          rw [nest11]
          refine bodyPost_ret (results_ct rfl _ _ br 26 zeroCells (0, 0) _ rfl (zero_again HR.out.st.res) Try.underlying26 rfl (by kernel_rfl)) rfl ?_
          rw [HQ.out]
          exact ⟨set_below HR.out.st.below HR.out.st.le _, rfl⟩
        replace HQ := aside (HQ.out.trans ((if_neg hq).trans (if_pos hq6)))
        dsimp only at HQ k7
        rw [hq6] at k6
        go_wp2_with fail
        clear k6 k7 hm6 hq6
        have hqx := aside hq
        clear hq
        refine (ifour_any w.heap.size bi lk bk wr HR.out.st.inn HR.out.st.by' HR.out.st.len HR.out.st.below.size).mono ?_
        rintro e w6 ⟨rfl, hI, hG⟩
        replace HR := aside (HR.out.next hI hG (tk_keeps 4 bk HR.out.st.by'))
        clear hI hG
        generalize tk 4 lk bk = t6 at HR HQ ⊢
        obtain ⟨x6, l6, b6⟩ := t6
        dsimp only at HR ⊢
        replace HQ := aside (HQ.out.trans (show _ = rdI x3 x4 xs x6 (tk 4 l6 b6) from rfl))
        go_wp2_with fail
        refine (ifour_any w.heap.size bi l6 b6 w6 HR.out.st.inn HR.out.st.by' HR.out.st.len HR.out.st.below.size).mono ?_
        rintro e w7 ⟨rfl, hI, hG⟩
        replace HR := aside (HR.out.next hI hG (tk_keeps 4 b6 HR.out.st.by'))
        clear hI hG
        generalize tk 4 l6 b6 = t7 at HR HQ ⊢
        obtain ⟨x7, l7, b7⟩ := t7
        dsimp only at HR ⊢
        replace HQ := aside (HQ.out.trans (show _ = rd3 xs ⟨x6, x7, x3, [], [], [], [], [], [], [], []⟩ (tkEach (x4 - x3 + 1).toNat l7 b7) from rfl))
        have k0 := HR.out.font.nums.1
        have k1 := HR.out.font.nums.2.1
        have k2 := HR.out.font.nums.2.2.1
        obtain ⟨cs, hcs⟩ := HR.out.font.has
        have j0 := blk_frozen hcs 0
        have j1 := blk_frozen hcs 1
        clear hcs
        dsimp only at k2
        obtain ⟨n, hn⟩ : ∃ n : Nat, x4 - x3 + 1 = n := ⟨(x4 - x3 + 1).toNat, by have := hqx.out; omega⟩
        go_wp2_with fail
        clear k0 k1 k2 j0 j1
        have H8 := aside (RS2.setf (HR.out.setf (k := 0) (HR.out.font.put_s (n := x6))) (k := 1) (FontIs.put_d (n := x7) (HR.out.font.put_s (n := x6))))
        clear HR
        generalize (w7.setCell ⟨bg, 0, none⟩ (.int .i64 x6)).setCell ⟨bg, 1, none⟩ (.int .i64 x7) = W8 at H8 ⊢
        dsimp only at H8
        refine (each_chars n w.heap.size bi bg l7 b7 ⟨x6, x7, x3, [], [], [], [], [], [], [], []⟩ W8 (by omega) H8.out.st.inn H8.out.st.by' H8.out.st.len H8.out.st.below.size H8.out.font rfl H8.out.n3).mono ?_
        rintro e w8 ⟨rfl, hF, hI, hs⟩
        have HR := aside (H8.out.save hs hI (tkEach_keeps n b7 H8.out.st.by') hF (by decide) (by decide))
        have hQ := HQ.out
        rw [show (x4 - x3 + 1).toNat = n by omega] at hQ
        generalize tkEach n l7 b7 = t8 at HR hQ
        obtain ⟨d8, l8, b8⟩ := t8
        replace HQ := aside (hQ.trans (show _ = rdAt 0 xs ⟨x6, x7, x3, chars d8, [], [], [], [], [], [], []⟩ l8 b8 from rfl))
        dsimp only at HR
        clear hQ H8 hF hI hs hn hrf hrl hqx
        go_wp2_with fail
        obtain ⟨W9, hW9⟩ : ∃ W9, W9 = w8.alloc (.cells #[.pointer (some ⟨bg, 4, none⟩), .pointer (some ⟨bg, 5, none⟩), .pointer (some ⟨bg, 6, none⟩), .pointer (some ⟨bg, 7, none⟩)] 58) := ⟨_, rfl⟩
        have hB9 : Below w8.heap.size w8 W9 := by rw [hW9]; exact below_alloc (Below.refl _ _) _
        have HP := aside (show W9.heap[w8.heap.size]? = some (.cells #[.pointer (some ⟨bg, 4, none⟩), .pointer (some ⟨bg, 5, none⟩), .pointer (some ⟨bg, 6, none⟩), .pointer (some ⟨bg, 7, none⟩)] 58 (0, 0)) by rw [hW9]; exact blk_new _ _)
        have hnp := aside (show w8.heap.size ≠ bi ∧ w8.heap.size ≠ bg from ⟨Nat.ne_of_gt HR.out.st.lt.2, Nat.ne_of_gt HR.out.font.lt⟩)
        replace HR := aside (HR.out.new hB9)
        rw [← hW9]
        generalize w8.heap.size = bp at HP hnp ⊢
        clear hW9 hB9
        go_loopg [81] 4 (fun gg s81 wr => ∃ (kk : Nat) (lk : List Int) (bk : Bool) (F : FontR), kk ≤ 4 ∧ 4 - kk ≤ gg ∧ s81 = .int .i64 kk ∧ F.l8 = [] ∧ Aside (r = rdAt kk xs F lk bk) ∧ Aside (RS2 w wr br bi bg bm lk bk F xs) ∧ Aside (wr.heap[bp]? = some (.cells #[.pointer (some ⟨bg, 4, none⟩), .pointer (some ⟨bg, 5, none⟩), .pointer (some ⟨bg, 6, none⟩), .pointer (some ⟨bg, 7, none⟩)] 58 (0, 0))))
        case atStart => exact ⟨0, l8, b8, _, by omega, by omega, rfl, rfl, HQ, HR, HP⟩
        case round =>
          clear HQ HR HP
          obtain ⟨kk, lk, bk, F, hkk, hg, rfl, hl8, HQ, HR, HP⟩ := hrel
          by_cases hlt : kk < 4
          · obtain rfl | rfl | rfl | rfl : kk = 0 ∨ kk = 1 ∨ kk = 2 ∨ kk = 3 := by omega
            · obtain ⟨n, hn, hn2, k0⟩ := many_num HR.out 0 (by omega) hm.out
              have k1 := (blk_cell HP.out 0).trans (show _ = some (.pointer (some ⟨bg, 4, none⟩)) from rfl)
              have HFX := aside (ifixes_any n w.heap.size bi lk bk wr (by omega) HR.out.st.inn HR.out.st.by' HR.out.st.len HR.out.st.below.size)
              have hQ := HQ.out
              have hts : (xs.getD 0 0).toNat = n := by rw [hn]; rfl
              have hb9 := tkFixes_keeps n bk HR.out.st.by'
              clear HQ
              have hQ2 := hQ.trans (show _ = rdAt 1 xs { F with l4 := (tkFixes n lk bk).1 } (tkFixes n lk bk).2.1 (tkFixes n lk bk).2.2 by rw [← hts]; rfl)
              clear hQ hts
              generalize tkFixes n lk bk = t9 at HFX hQ2 hb9
              have HQ := aside hQ2
              clear hQ2
              go_wp2_with (go_at_call 20; refine HFX.out.mono ?_; rintro e w9 ⟨v, rfl, hRv, hI, hG⟩; have HR9 := aside (HR.out.next hI hG hb9); obtain ⟨A9, c9, hv⟩ := Kd.R_slice hRv; subst hv; have ⟨vv, k2⟩ := HR9.out.font.nums.2.2.2.1; have ⟨cs, hcs⟩ := HR9.out.font.has; have k3 := blk_frozen hcs 4; have HG := aside hG; clear hcs hG)
              have HF9 := HR9.out.font.put4 (R_into hRv HR.out.font.lt HR.out.st.below.size)
              have HB9 := blk_grown HP.out HG.out (by simpa using hnp.out.1)
              go_roundg 3
              case measure => omega
              case rel => exact ⟨1, _, _, { F with l4 := t9.1 }, by omega, by omega, rfl, hl8, HQ, HR9.out.setf HF9, blk_far HB9 (p := ⟨bg, 4, none⟩) hnp.out.2 _⟩
            · obtain ⟨n, hn, hn2, k0⟩ := many_num HR.out 1 (by omega) hm.out
              have k1 := (blk_cell HP.out 1).trans (show _ = some (.pointer (some ⟨bg, 5, none⟩)) from rfl)
              have HFX := aside (ifixes_any n w.heap.size bi lk bk wr (by omega) HR.out.st.inn HR.out.st.by' HR.out.st.len HR.out.st.below.size)
              have hQ := HQ.out
              have hts : (xs.getD 1 0).toNat = n := by rw [hn]; rfl
              have hb9 := tkFixes_keeps n bk HR.out.st.by'
              clear HQ
              have hQ2 := hQ.trans (show _ = rdAt 2 xs { F with l5 := (tkFixes n lk bk).1 } (tkFixes n lk bk).2.1 (tkFixes n lk bk).2.2 by rw [← hts]; rfl)
              clear hQ hts
              generalize tkFixes n lk bk = t9 at HFX hQ2 hb9
              have HQ := aside hQ2
              clear hQ2
              go_wp2_with (go_at_call 20; refine HFX.out.mono ?_; rintro e w9 ⟨v, rfl, hRv, hI, hG⟩; have HR9 := aside (HR.out.next hI hG hb9); obtain ⟨A9, c9, hv⟩ := Kd.R_slice hRv; subst hv; have ⟨vv, k2⟩ := HR9.out.font.nums.2.2.2.2.1; have ⟨cs, hcs⟩ := HR9.out.font.has; have k3 := blk_frozen hcs 5; have HG := aside hG; clear hcs hG)
              have HF9 := HR9.out.font.put5 (R_into hRv HR.out.font.lt HR.out.st.below.size)
              have HB9 := blk_grown HP.out HG.out (by simpa using hnp.out.1)
              go_roundg 2
              case measure => omega
              case rel => exact ⟨2, _, _, { F with l5 := t9.1 }, by omega, by omega, rfl, hl8, HQ, HR9.out.setf HF9, blk_far HB9 (p := ⟨bg, 5, none⟩) hnp.out.2 _⟩
            · obtain ⟨n, hn, hn2, k0⟩ := many_num HR.out 2 (by omega) hm.out
              have k1 := (blk_cell HP.out 2).trans (show _ = some (.pointer (some ⟨bg, 6, none⟩)) from rfl)
              have HFX := aside (ifixes_any n w.heap.size bi lk bk wr (by omega) HR.out.st.inn HR.out.st.by' HR.out.st.len HR.out.st.below.size)
              have hQ := HQ.out
              have hts : (xs.getD 2 0).toNat = n := by rw [hn]; rfl
              have hb9 := tkFixes_keeps n bk HR.out.st.by'
              clear HQ
              have hQ2 := hQ.trans (show _ = rdAt 3 xs { F with l6 := (tkFixes n lk bk).1 } (tkFixes n lk bk).2.1 (tkFixes n lk bk).2.2 by rw [← hts]; rfl)
              clear hQ hts
              generalize tkFixes n lk bk = t9 at HFX hQ2 hb9
              have HQ := aside hQ2
              clear hQ2
              go_wp2_with (go_at_call 20; refine HFX.out.mono ?_; rintro e w9 ⟨v, rfl, hRv, hI, hG⟩; have HR9 := aside (HR.out.next hI hG hb9); obtain ⟨A9, c9, hv⟩ := Kd.R_slice hRv; subst hv; have ⟨vv, k2⟩ := HR9.out.font.nums.2.2.2.2.2.1; have ⟨cs, hcs⟩ := HR9.out.font.has; have k3 := blk_frozen hcs 6; have HG := aside hG; clear hcs hG)
              have HF9 := HR9.out.font.put6 (R_into hRv HR.out.font.lt HR.out.st.below.size)
              have HB9 := blk_grown HP.out HG.out (by simpa using hnp.out.1)
              go_roundg 1
              case measure => omega
              case rel => exact ⟨3, _, _, { F with l6 := t9.1 }, by omega, by omega, rfl, hl8, HQ, HR9.out.setf HF9, blk_far HB9 (p := ⟨bg, 6, none⟩) hnp.out.2 _⟩
            · obtain ⟨n, hn, hn2, k0⟩ := many_num HR.out 3 (by omega) hm.out
              have k1 := (blk_cell HP.out 3).trans (show _ = some (.pointer (some ⟨bg, 7, none⟩)) from rfl)
              have HFX := aside (ifixes_any n w.heap.size bi lk bk wr (by omega) HR.out.st.inn HR.out.st.by' HR.out.st.len HR.out.st.below.size)
              have hQ := HQ.out
              have hts : (xs.getD 3 0).toNat = n := by rw [hn]; rfl
              have hb9 := tkFixes_keeps n bk HR.out.st.by'
              clear HQ
              have hQ2 := hQ.trans (show _ = rdAt 4 xs { F with l7 := (tkFixes n lk bk).1 } (tkFixes n lk bk).2.1 (tkFixes n lk bk).2.2 by rw [← hts]; rfl)
              clear hQ hts
              generalize tkFixes n lk bk = t9 at HFX hQ2 hb9
              have HQ := aside hQ2
              clear hQ2
              go_wp2_with (go_at_call 20; refine HFX.out.mono ?_; rintro e w9 ⟨v, rfl, hRv, hI, hG⟩; have HR9 := aside (HR.out.next hI hG hb9); obtain ⟨A9, c9, hv⟩ := Kd.R_slice hRv; subst hv; have ⟨vv, k2⟩ := HR9.out.font.nums.2.2.2.2.2.2.1; have ⟨cs, hcs⟩ := HR9.out.font.has; have k3 := blk_frozen hcs 7; have HG := aside hG; clear hcs hG)
              have HF9 := HR9.out.font.put7 (R_into hRv HR.out.font.lt HR.out.st.below.size)
              have HB9 := blk_grown HP.out HG.out (by simpa using hnp.out.1)
              go_roundg 0
              case measure => omega
              case rel => exact ⟨4, _, _, { F with l7 := t9.1 }, by omega, by omega, rfl, hl8, HQ, HR9.out.setf HF9, blk_far HB9 (p := ⟨bg, 7, none⟩) hnp.out.2 _⟩
          · obtain rfl : kk = 4 := by omega
            have hltz : ¬ ((4 : Nat) : Int) < 4 := by omega
            obtain ⟨n, hn, hn2, k0⟩ := many_num HR.out 4 (by omega) hm.out
            have hQ := HQ.out.trans (show _ = rdS xs F (tkEach n lk bk) by rw [show n = (xs.getD 4 0).toNat by rw [hn]; rfl]; rfl)
            clear HQ hlt hg hkk HP
            go_wp2_with fail
            refine (each_steps n w.heap.size bi bg lk bk F wr (by omega) HR.out.st.inn HR.out.st.by' HR.out.st.len HR.out.st.below.size HR.out.font hl8 HR.out.n3).mono ?_
            rintro e w10 ⟨rfl, hF, hI, hs⟩
            replace HR := aside (HR.out.save hs hI (tkEach_keeps n bk HR.out.st.by') hF (by decide) (by decide))
            clear hF hI hs k0 hn hn2
            generalize tkEach n lk bk = t10 at HR hQ
            obtain ⟨d10, l10, b10⟩ := t10
            dsimp only at HR
            have HQ := aside (hQ.trans (show _ = rdK xs { F with l8 := steps d10 } (tkFixes (xs.getD 5 0).toNat l10 b10) from rfl))
            clear hQ hl8
            generalize { F with l8 := steps d10 } = F2 at HR HQ
            clear F lk bk d10
            obtain ⟨n, hn, hn2, k0⟩ := many_num HR.out 5 (by omega) hm.out
            have hQ := HQ.out
            rw [show (xs.getD 5 0).toNat = n by rw [hn]; rfl] at hQ
            clear HQ
            go_wp2_with fail
            refine (ifixes_any n w.heap.size bi l10 b10 w10 (by omega) HR.out.st.inn HR.out.st.by' HR.out.st.len HR.out.st.below.size).mono ?_
            rintro e w11 ⟨v, rfl, hRv, hI, hG⟩
            have hp := R_into hRv HR.out.font.lt HR.out.st.below.size
            replace HR := aside (HR.out.next hI hG (tkFixes_keeps n b10 HR.out.st.by'))
            obtain ⟨A9, c9, hv⟩ := Kd.R_slice hRv
            subst hv
            clear hI hG hRv k0 hn hn2
            generalize tkFixes n l10 b10 = s1 at HR hQ hp ⊢
            obtain ⟨ys1, ls1, bs1⟩ := s1
            dsimp only at HR hp ⊢
            have HQ := aside (hQ.trans (show _ = rdP xs { F2 with l9 := ys1 } (tkFixes (xs.getD 7 0).toNat ls1 bs1) from rfl))
            clear hQ
            obtain ⟨vv, k2⟩ := HR.out.font.nums.2.2.2.2.2.2.2.1
            obtain ⟨cs, hcs⟩ := HR.out.font.has
            have k3 := blk_frozen hcs 9
            clear hcs
            have HP := aside hp
            clear hp
            have hx5 : ¬ bg = bm := HR.out.n5
            have hx5' : ¬ bm = bg := fun e => hx5 e.symm
            have H12 := aside (HR.out.setf (k := 9) (HR.out.font.put9 HP.out))
            obtain ⟨n7, hn7, hn72, k7⟩ := many_num HR.out 7 (by omega) hm.out
            go_wp2_with fail
            clear k2 k3 k7 HR HP hx5 hx5'
            generalize w11.setCell ⟨bg, 9, none⟩ _ = W12 at H12 ⊢
            generalize { F2 with l9 := ys1 } = F3 at H12 HQ
            have hQ := HQ.out
            rw [show (xs.getD 7 0).toNat = n7 by rw [hn7]; rfl] at hQ
            clear HQ
            refine (ifixes_any n7 w.heap.size bi ls1 bs1 W12 (by omega) H12.out.st.inn H12.out.st.by' H12.out.st.len H12.out.st.below.size).mono ?_
            rintro e w13 ⟨v, rfl, hRv, hI, hG⟩
            have hp := R_into hRv H12.out.font.lt H12.out.st.below.size
            have HR := aside (H12.out.next hI hG (tkFixes_keeps n7 bs1 H12.out.st.by'))
            clear hI hG hRv hn7 hn72 H12
            generalize tkFixes n7 ls1 bs1 = s2 at HR hQ hp ⊢
            obtain ⟨y, lz, bz⟩ := s2
            dsimp only at HR hp ⊢
            have HQ := aside (hQ.trans (show _ = rdT { F3 with l10 := y } (y, lz, bz) from rfl))
            clear hQ
            have H14 := aside (HR.out.setf (k := 10) (HR.out.font.put10 hp))
            obtain ⟨v3, v4, v5, v6, v7, v8, v9, v10, hb, _, r3, r4, r5, r6, r7, r8, r9, r10⟩ := HR.out.font
            obtain ⟨A3, c3, hv3⟩ := Kd.R_slice r3
            obtain ⟨A4, c4, hv4⟩ := Kd.R_slice r4
            obtain ⟨A5, c5, hv5⟩ := Kd.R_slice r5
            obtain ⟨A6, c6, hv6⟩ := Kd.R_slice r6
            obtain ⟨A7, c7, hv7⟩ := Kd.R_slice r7
            obtain ⟨A8, c8, hv8⟩ := Kd.R_slice r8
            obtain ⟨A9, c9, hv9⟩ := Kd.R_slice r9
            obtain ⟨A10, c10, hv10⟩ := Kd.R_slice hp
            subst hv3 hv4 hv5 hv6 hv7 hv8 hv9 hv10
            obtain ⟨x0_, x1_, x2_, u3, u4, u5, u6, u7, u8, u9, u10_⟩ := font_cells hb
            have hfz := blk_frozen hb 10
            have HB := aside hb
            have HRR := aside (And.intro r3 (And.intro r4 (And.intro r5 (And.intro r6 (And.intro r7 (And.intro r8 (And.intro r9 hp)))))))
            clear r3 r4 r5 r6 r7 r8 r9 r10 hp hb
            have hn1 : ¬ bg = bi := fun e => HR.out.n3 e.symm
            have hn2 : ¬ bi = bg := HR.out.n3
            have hn3 : ¬ bg = br := fun e => HR.out.n1 e.symm
            have hn4 : ¬ br = bg := HR.out.n1
            obtain ⟨Ai, ci, hbi, _, _, _⟩ := HR.out.st.inn
            obtain ⟨i0, i1, _, _⟩ := inis_cells hbi
            clear hbi
            cases bz with
            | true =>
              replace HQ := aside (HQ.out.trans (show _ = none from if_neg (fun h => by cases h.1)))
              obtain ⟨z0, z1, z2, z3, z4, z5, z6, z7, z8, z9, z10⟩ := zero_cells HR.out.st.res
              obtain ⟨f0, f1, f2, f3, f4, f5, f6, f7, f8, f9, f10⟩ := zero_frozen HR.out.st.res
              go_wp2_with fail
              rw [nest11]
              refine bodyPost_ret (results_ct rfl _ _ br 26 zeroCells (0, 0) _ rfl (zero_again H14.out.st.res) Try.underlying26 rfl (by kernel_rfl)) rfl ?_
              rw [HQ.out]
              exact ⟨set_below H14.out.st.below H14.out.st.le _, rfl⟩
            | false =>
              by_cases hz : lz.length = 0
              rotate_left
              · replace HQ := aside (HQ.out.trans (show _ = none from if_neg (fun h => hz (by have h1 := h.2.1; dsimp only at h1; rw [h1]; rfl))))
                have hzz : 0 < (lz.length : Int) := by omega
                obtain ⟨z0, z1, z2, z3, z4, z5, z6, z7, z8, z9, z10⟩ := zero_cells HR.out.st.res
                obtain ⟨f0, f1, f2, f3, f4, f5, f6, f7, f8, f9, f10⟩ := zero_frozen HR.out.st.res
                go_wp2_with fail
                rw [nest11]
                refine bodyPost_ret (results_ct rfl _ _ br 26 zeroCells (0, 0) _ rfl (zero_again H14.out.st.res) Try.underlying26 rfl (by kernel_rfl)) rfl ?_
                rw [HQ.out]
                exact ⟨set_below H14.out.st.below H14.out.st.le _, rfl⟩
              have hzz : ¬ 0 < (lz.length : Int) := by omega
              go_wp2_with fail
              clear x0_ x1_ x2_ u3 u4 u5 u6 u7 u8 u9 u10_ i0 i1 hfz
              have q3 := Kd.R_far (p := ⟨bg, 10, none⟩) HRR.out.1 (fun k hk => hk) (.slice A10 y.length c10)
              have q4 := Kd.R_far (p := ⟨bg, 10, none⟩) HRR.out.2.1 (fun k hk => hk) (.slice A10 y.length c10)
              have q5 := Kd.R_far (p := ⟨bg, 10, none⟩) HRR.out.2.2.1 (fun k hk => hk) (.slice A10 y.length c10)
              have q6 := Kd.R_far (p := ⟨bg, 10, none⟩) HRR.out.2.2.2.1 (fun k hk => hk) (.slice A10 y.length c10)
              have q7 := Kd.R_far (p := ⟨bg, 10, none⟩) HRR.out.2.2.2.2.1 (fun k hk => hk) (.slice A10 y.length c10)
              have q8 := Kd.R_far (p := ⟨bg, 10, none⟩) HRR.out.2.2.2.2.2.1 (fun k hk => hk) (.slice A10 y.length c10)
              have q9 := Kd.R_far (p := ⟨bg, 10, none⟩) HRR.out.2.2.2.2.2.2.1 (fun k hk => hk) (.slice A10 y.length c10)
              have q10 := Kd.R_far (p := ⟨bg, 10, none⟩) HRR.out.2.2.2.2.2.2.2 (fun k hk => hk) (.slice A10 y.length c10)
              have hb14 : (w13.setCell ⟨bg, 10, none⟩ (.slice A10 y.length c10)).heap[bg]? = some (.cells #[.int .i64 F3.s, .int .i64 F3.d, .int .i64 F3.f, .slice A3 F3.l3.length c3, .slice A4 F3.l4.length c4, .slice A5 F3.l5.length c5, .slice A6 F3.l6.length c6, .slice A7 F3.l7.length c7, .slice A8 F3.l8.length c8, .slice A9 F3.l9.length c9, .slice A10 y.length c10] 26 (0, 0)) := blk_set HB.out 10 _
              clear HRR HB HR
              generalize w13.setCell ⟨bg, 10, none⟩ (.slice A10 y.length c10) = W14 at H14 q3 q4 q5 q6 q7 q8 q9 q10 hb14 ⊢
              refine (check_any F3.s F3.d F3.f A3 A4 A5 A6 A7 A8 A9 A10 c3 c4 c5 c6 c7 c8 c9 c10 F3.l3 F3.l4 F3.l5 F3.l6 F3.l7 F3.l8 F3.l9 y W14 (Kd.R_reads' q3).2.2 (Kd.R_reads' q4).2.2 (Kd.R_reads' q5).2.2 (Kd.R_reads' q6).2.2 (Kd.R_reads' q7).2.2 (Kd.R_reads' q8).2.2 (Kd.R_reads' q9).2.2 (Kd.R_reads' q10).2.2).mono ?_
              rintro e w15 ⟨rfl, hB15⟩
              replace H14 := aside (H14.out.new hB15)
              have hb15 := blk_below hb14 hB15
              have HRR := aside (And.intro (Kd.R_below q3 hB15) (And.intro (Kd.R_below q4 hB15) (And.intro (Kd.R_below q5 hB15) (And.intro (Kd.R_below q6 hB15) (And.intro (Kd.R_below q7 hB15) (And.intro (Kd.R_below q8 hB15) (And.intro (Kd.R_below q9 hB15) (Kd.R_below q10 hB15))))))))
              have hz0 : lz = [] := List.eq_nil_of_length_eq_zero hz
              clear q3 q4 q5 q6 q7 q8 q9 q10 hb14 hB15
              have hQ := HQ.out
              generalize hk : checkB F3.s F3.d F3.f F3.l3 F3.l4 F3.l5 F3.l6 F3.l7 F3.l8 F3.l9 y = q
              cases q with
              | false =>
                replace HQ := aside (hQ.trans (show _ = none from if_neg (fun h => by have h1 := h.2.2; dsimp only at h1; rw [hk] at h1; cases h1)))
                clear hk hQ hb15 HRR
                obtain ⟨z0, z1, z2, z3, z4, z5, z6, z7, z8, z9, z10⟩ := zero_cells H14.out.st.res
                obtain ⟨f0, f1, f2, f3, f4, f5, f6, f7, f8, f9, f10⟩ := zero_frozen H14.out.st.res
                go_wp2_with fail
                rw [nest11]
                refine bodyPost_ret (results_ct rfl _ _ br 26 zeroCells (0, 0) _ rfl (zero_again H14.out.st.res) Try.underlying26 rfl (by kernel_rfl)) rfl ?_
                rw [HQ.out]
                exact ⟨set_below H14.out.st.below H14.out.st.le _, rfl⟩
              | true =>
                replace HQ := aside (hQ.trans (show _ = some { F3 with l10 := y } from if_pos ⟨rfl, hz0, hk⟩))
                clear hk hQ
                obtain ⟨z0, z1, z2, z3, z4, z5, z6, z7, z8, z9, z10⟩ := zero_cells H14.out.st.res
                obtain ⟨f0, f1, f2, f3, f4, f5, f6, f7, f8, f9, f10⟩ := zero_frozen H14.out.st.res
                obtain ⟨y0, y1, y2, y3, y4, y5, y6, y7, y8, y9, y10⟩ := font_cells hb15
                clear hb15
                go_wp2_with fail
                rw [nest11]
                refine bodyPost_ret (results_ct rfl _ _ br 26 _ (0, 0) _ rfl (set_again _ H14.out.st.res rfl) Try.underlying26 rfl (by kernel_rfl)) rfl ?_
                rw [HQ.out]
                have hg := fun vs => set_grown w15 br vs
                exact ⟨set_below H14.out.st.below H14.out.st.le _, _, _, _, _, _, _, _, _, rfl, Kd.R_mono (R_other HRR.out.1 (hg _) H14.out.st.res (by decide)) (fun _ _ => trivial), Kd.R_mono (R_other HRR.out.2.1 (hg _) H14.out.st.res (by decide)) (fun _ _ => trivial), Kd.R_mono (R_other HRR.out.2.2.1 (hg _) H14.out.st.res (by decide)) (fun _ _ => trivial), Kd.R_mono (R_other HRR.out.2.2.2.1 (hg _) H14.out.st.res (by decide)) (fun _ _ => trivial), Kd.R_mono (R_other HRR.out.2.2.2.2.1 (hg _) H14.out.st.res (by decide)) (fun _ _ => trivial), Kd.R_mono (R_other HRR.out.2.2.2.2.2.1 (hg _) H14.out.st.res (by decide)) (fun _ _ => trivial), Kd.R_mono (R_other HRR.out.2.2.2.2.2.2.1 (hg _) H14.out.st.res (by decide)) (fun _ _ => trivial), Kd.R_mono (R_other HRR.out.2.2.2.2.2.2.2 (hg _) H14.out.st.res (by decide)) (fun _ _ => trivial)⟩
  · have h4z : ¬ (l.length : Int) % 4 = 0 := by omega
    replace HQ := aside (HQ.out.trans (if_neg h4))
    go_wp2_with fail
    refine bodyPost_ret (results_ct rfl _ _ w.heap.size 26 zeroCells (0, 0) _ rfl (blk_alloc (blk_new _ _) _) Try.underlying26 rfl (by kernel_rfl)) rfl ?_
    rw [HQ.out]
    exact ⟨(below_alloc (Below.refl _ _) _).alloc (by simp) _, rfl⟩
end Go.Proofs.Ytllllmhekdcbiaa
