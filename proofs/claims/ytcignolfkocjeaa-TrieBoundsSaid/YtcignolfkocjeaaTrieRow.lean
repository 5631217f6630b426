/- What trie's put leaves behind. -/
import Derived.Test.YtcignolfkocjeaaTrieDef
import Derived.Test.YtcignolfkocjeaaClone
import Derived.Deep.RegionHeld3
import Derived.DataShut
set_option linter.unusedVariables false
set_option linter.unusedSimpArgs false
namespace Go.Proofs.Ytcignolfkocjeaa
open Go.RowKit Go.Proofs.YtcignolfkocjeaaW.PrintWords

theorem byte_range (s : ByteArray) (k : Nat) : 0 ≤ (bytesOf s).getD k 0 ∧ (bytesOf s).getD k 0 ≤ 255 := by
  rw [List.getD_eq_getElem?_getD]
  unfold bytesOf
  rw [List.getElem?_map]
  cases h : s.data.toList[k]? with
  | none => simp
  | some x => simp only [Option.map_some, Option.getD_some]; have := x.toNat_lt; omega
/-- What steps name is a node. -/
def StepsOk (S : List ((Int × Int) × Int)) (N : Int) : Prop := ∀ e, e ∈ S → 0 ≤ e.2 ∧ e.2 < N
theorem lkS_node {S : List ((Int × Int) × Int)} {N a b n : Int} (h : StepsOk S N) (hl : lkS S a b = some n) : 0 ≤ n ∧ n < N := by
  unfold lkS at hl
  obtain ⟨e, he, rfl⟩ := Option.map_eq_some_iff.1 hl
  exact h e (List.mem_of_find?_eq_some he)
theorem StepsOk.snoc {S : List ((Int × Int) × Int)} {N a b : Int} (h : StepsOk S N) (hN : 0 ≤ N) : StepsOk (S ++ [((a, b), N)]) (N + 1) := by
  intro e he
  rcases List.mem_append.1 he with he | he
  · have := h e he; omega
  · rw [List.mem_singleton.1 he]; simp only; omega
theorem wf64 {n : Int} (h0 : 0 ≤ n) (h1 : n ≤ 9223372036854775807) : (Lit.int .i64 n).wf = true := (Lit.wf_int_iff _ _).2 (by
  have e1 : IntKind.i64.min = -9223372036854775808 := by decide
  have e2 : IntKind.i64.max = 9223372036854775807 := by decide
  omega)
theorem wf8 {n : Int} (h0 : 0 ≤ n) (h1 : n ≤ 255) : (Lit.int .u8 n).wf = true := (Lit.wf_int_iff _ _).2 (by
  have e1 : IntKind.u8.min = 0 := by decide
  have e2 : IntKind.u8.max = 255 := by decide
  omega)

theorem look_step_yes {W : World} {rs : Nat} {S : List ((Int × Int) × Int)} (h : MapIs Try.prog 86 W rs (S.map entS)) {a b n : Int} (hl : lkS S a b = some n) :
    (Instr.lookup 77 (.map (some rs)) (.agg #[.int .i64 a, .int .u8 b]) true).run Try.prog W = .ok (.tuple #[.int .i64 n, .bool true]) W :=
  look_yes true law_step Try.underlying77 h (lkS_some hl)
theorem look_step_no {W : World} {rs : Nat} {S : List ((Int × Int) × Int)} (h : MapIs Try.prog 86 W rs (S.map entS)) {a b : Int} (ha : 0 ≤ a ∧ a ≤ 9223372036854775807) (hb : 0 ≤ b ∧ b ≤ 255) (hl : lkS S a b = none) :
    (Instr.lookup 77 (.map (some rs)) (.agg #[.int .i64 a, .int .u8 b]) true).run Try.prog W = .ok (.tuple #[.int .i64 0, .bool false]) W :=
  look_no true law_step Try.underlying77 h (key_step (wf64 ha.1 ha.2) (wf8 hb.1 hb.2)) (zero_int W) (lkS_none hl)

/-- The first loop's state: the letters before this place are put in. -/
structure PutSt (W wr : World) (Y : Nat → Prop) (b rs rv bx nb : Nat) (c0 c1 c2 c3 : Value) (V : List (Int × List Int)) (s : ByteArray) (u : Value) (S : List ((Int × Int) × Int)) (N : Int) : Prop where
  tm : TrieM wr Y b rs rv c0 c1 c2 c3 ⟨S, N, V⟩
  kp : Keep Y W wr
  hx : wr.heap[bx]? = some (.cells #[.string s, u] 40 (0, 0))
  hc : (Kd.int .u8).C wr (some ⟨nb, 0, none⟩) (bytesOf s).length (bytesOf s)
  ok : StepsOk S N

theorem c_far {W wr : World} {Y : Nat → Prop} {A : Option Addr} {v : List Int} (hC : (Kd.int .i64).C W A v.length v) (hk : Keep Y W wr) (hf : ∀ ad, A = some ad → 0 < v.length → ¬ Y ad.block) : (Kd.int .i64).C wr A v.length v := by
  refine Kd.C_of_reads (d := (0 : Int)) (enc := Value.int .i64) (h1 := fun _ => rfl) ?_
  obtain ⟨r1, r2, r3⟩ := Kd.reads_of_C (enc := Value.int .i64) (d := (0 : Int)) (h1 := fun _ => rfl) hC
  refine ⟨r1, r2, fun hp => ?_⟩
  obtain ⟨ad, e, hc⟩ := r3 hp
  refine ⟨ad, e, fun j hj => hk.cell (hc j hj) ?_⟩
  have : (ad.add j).block = ad.block := by unfold Addr.add; split <;> rfl
  rw [this]; exact hf ad e hp
theorem lkV_map (M : List NodeV) (a : Int) : lkV (M.map fun m => (m.n, m.xs)) a = (M.find? fun m => decide (m.n = a)).map (·.xs) := by
  unfold lkV
  rw [List.find?_map]
  cases h : M.find? ((fun e : Int × List Int => decide (e.1 = a)) ∘ fun m => (m.n, m.xs)) with
  | none =>
    have : M.find? (fun m => decide (m.n = a)) = none := h
    rw [this]; rfl
  | some m =>
    have : M.find? (fun m => decide (m.n = a)) = some m := h
    rw [this]; rfl
theorem look_val_no {W : World} {X : Nat → Prop} {rv : Nat} {V : List (Int × List Int)} (h : ValsAt W X rv V) {a : Int} (ha : 0 ≤ a ∧ a ≤ 9223372036854775807) (hl : lkV V a = none) :
    (Instr.lookup 78 (.map (some rv)) (.int .i64 a) false).run Try.prog W = .ok (.slice none 0 0) W := by
  obtain ⟨M, hM, h2, h3, h4⟩ := h
  rw [← hM, lkV_map, Option.map_eq_none_iff, List.find?_eq_none] at hl
  refine look_no false law_int Try.underlying78 h2 (key_int (wf64 ha.1 ha.2)) (zero_ints W) (fun p hp e => ?_)
  obtain ⟨m, hm, rfl⟩ := List.mem_map.1 hp
  simp only [Value.int.injEq, true_and] at e
  exact hl m hm (by simpa using e)
theorem look_val_yes {W : World} {X : Nat → Prop} {rv : Nat} {V : List (Int × List Int)} (h : ValsAt W X rv V) {a : Int} {xs : List Int} (hl : lkV V a = some xs) :
    ∃ M : List NodeV, M.map (fun m => (m.n, m.xs)) = V ∧ MapIs Try.prog 3 W rv (M.map fun m => (.int .i64 m.n, m.val)) ∧ (∀ m, m ∈ M → RowAt W m ∧ X m.g) ∧ M.Pairwise (fun m m' => m.g ≠ m'.g) ∧ ∃ m, m ∈ M ∧ m.n = a ∧ m.xs = xs ∧
      (Instr.lookup 78 (.map (some rv)) (.int .i64 a) false).run Try.prog W = .ok (.slice (some ⟨m.g, 0, none⟩) m.xs.length m.cap) W := by
  obtain ⟨M, hM, h2, h3, h4⟩ := h
  refine ⟨M, hM, h2, h3, h4, ?_⟩
  rw [← hM, lkV_map] at hl
  obtain ⟨m, hm, rfl⟩ := Option.map_eq_some_iff.1 hl
  have h5 := List.mem_of_find?_eq_some hm
  have h6 := List.find?_some hm
  simp only [decide_eq_true_eq] at h6
  refine ⟨m, h5, h6, rfl, ?_⟩
  exact look_yes false law_int Try.underlying78 h2 (List.mem_map.2 ⟨m, h5, by rw [h6]; rfl⟩)
theorem grown_cell {w W : World} {r : Option Nat} {a : Addr} {v : Value} (hg : w.grownBy W r) (hc : w.cell? a = some v) (hr : some a.block ≠ r) : W.cell? a = some v := by
  have hlt : a.block < w.heap.size := by
    rcases Nat.lt_or_ge a.block w.heap.size with h' | h'
    · exact h'
    · simp [World.cell?, Array.getElem?_eq_none h'] at hc
  unfold World.cell? at hc ⊢
  rw [hg.block _ hlt hr]; exact hc
theorem vals_none {M : List NodeV} {V : List (Int × List Int)} (hM : M.map (fun m => (m.n, m.xs)) = V) {a : Int} (hl : lkV V a = none) : ∀ p, p ∈ (M.map fun m => (Value.int .i64 m.n, m.val)) → p.1 ≠ .int .i64 a := by
  intro p hp e
  rw [← hM, lkV_map, Option.map_eq_none_iff, List.find?_eq_none] at hl
  obtain ⟨m, hm, rfl⟩ := List.mem_map.1 hp
  simp only [Value.int.injEq, true_and] at e
  exact hl m hm (by simpa using e)
def mixK : List Int → List Int → Nat → List Int
  | o :: os, p :: ps, k + 1 => max o p :: mixK os ps k
  | os, _, _ => os
theorem mixK_zero (os ps : List Int) : mixK os ps 0 = os := by cases os <;> cases ps <;> rfl
theorem mixK_length : ∀ (os ps : List Int) (k : Nat), (mixK os ps k).length = os.length
  | [], _, _ => rfl
  | _ :: _, [], _ => rfl
  | _ :: _, _ :: _, 0 => rfl
  | o :: os, p :: ps, k + 1 => by simp [mixK, mixK_length os ps k]
theorem mixK_step : ∀ (os ps : List Int) (k : Nat), k < os.length → k < ps.length → (mixK os ps k).set k (max ((mixK os ps k).getD k 0) (ps.getD k 0)) = mixK os ps (k + 1)
  | [], _, _, h, _ => by simp at h
  | _ :: _, [], _, _, h => by simp at h
  | o :: os, p :: ps, 0, _, _ => by simp [mixK, mixK_zero]
  | o :: os, p :: ps, k + 1, h1, h2 => by
    have := mixK_step os ps k (by simpa using h1) (by simpa using h2)
    simp only [mixK, List.set_cons_succ, List.getD_cons_succ, this]
theorem mixK_all : ∀ (os ps : List Int), os.length = ps.length → mixK os ps os.length = zipMax os ps
  | [], [], _ => rfl
  | o :: os, p :: ps, h => by
    have := mixK_all os ps (by simpa using h)
    simp only [List.length_cons, mixK, zipMax, this]
theorem zipMax_length : ∀ (os ps : List Int), (zipMax os ps).length = os.length
  | [], _ => by simp [zipMax]
  | _ :: _, [] => rfl
  | o :: os, p :: ps => by simp [zipMax, zipMax_length os ps]
theorem TrieM.rs_ne {W : World} {X : Nat → Prop} {b rs rv : Nat} {c0 c1 c2 c3 : Value} {T : TrieS} (h : TrieM W X b rs rv c0 c1 c2 c3 T) : rs ≠ b := by
  rintro rfl
  obtain ⟨⟨es, clock, hb, _⟩, _⟩ := h.hs
  have := h.hb; rw [hb] at this; cases this
theorem TrieM.rv_ne {W : World} {X : Nat → Prop} {b rs rv : Nat} {c0 c1 c2 c3 : Value} {T : TrieS} (h : TrieM W X b rs rv c0 c1 c2 c3 T) : rv ≠ b := by
  rintro rfl
  obtain ⟨M, _, ⟨⟨es, clock, hb, _⟩, _⟩, _⟩ := h.hv
  have := h.hb; rw [hb] at this; cases this
theorem PutSt.step {W wr w2 : World} {Y : Nat → Prop} {b rs rv bx nb : Nat} {c0 c1 c2 c3 : Value} {V : List (Int × List Int)} {s : ByteArray} {u : Value} {S : List ((Int × Int) × Int)} {N a x : Int} (h : PutSt W wr Y b rs rv bx nb c0 c1 c2 c3 V s u S N) (hY : ∀ k, Y k → k < bx) (hnb : bx < nb) (hN : 0 ≤ N)
    (hm : MapIs Try.prog 86 w2 rs (S.map entS ++ [(keyS a x, .int .i64 N)])) (hg : (wr.setCell ⟨b, 4, none⟩ (.int .i64 (N + 1))).grownBy w2 (some rs)) (hl : bytesOf s ≠ [] ) :
    PutSt W w2 Y b rs rv bx nb c0 c1 c2 c3 V s u (S ++ [((a, x), N)]) (N + 1) := by
  have hk1 : Keep Y wr (wr.setCell ⟨b, 4, none⟩ (.int .i64 (N + 1))) := Keep.set (p := ⟨b, 4, none⟩) h.tm.xb _
  have hk2 : Keep Y (wr.setCell ⟨b, 4, none⟩ (.int .i64 (N + 1))) w2 := Keep.of_grown hg (fun k e => by cases e; exact h.tm.xs)
  have hk : Keep Y wr w2 := hk1.trans hk2 (fun _ _ h => h)
  have hne := h.tm.rs_ne
  have hvb := h.tm.rv_ne
  have hlt := blk_lt h.tm.hb
  have hsame : ∀ k, k < wr.heap.size → k ≠ b → k ≠ rs → w2.heap[k]? = wr.heap[k]? := fun k hk hb hr => (hg.block k (by simpa [World.setCell] using hk) (by simpa using hr)).trans (Below.heap_setCell _ _ _ _ hb)
  refine ⟨⟨?_, ?_, ?_, h.tm.xb, h.tm.xs, h.tm.xv, h.tm.ne⟩, h.kp.trans hk (fun _ _ h => h), hk.blk h.hx (fun hy => by have := hY _ hy; omega), ?_, h.ok.snoc hN⟩
  · exact (hg.block b (by simpa [World.setCell] using hlt) (by simpa using hne.symm)).trans (blk_set h.tm.hb 4 _)
  · have e : (S ++ [((a, x), N)]).map entS = S.map entS ++ [(keyS a x, .int .i64 N)] := by simp [entS]
    show MapIs _ _ _ _ ((S ++ [((a, x), N)]).map entS)
    rw [e]; exact hm
  · have hv := h.tm.hv
    obtain ⟨M, m1, m2, m3, m4⟩ := hv
    refine ⟨M, m1, m2.keep (hsame rv m2.lt hvb h.tm.ne.symm), fun m hm => ⟨(m3 m hm).1.keep (hsame m.g (m3 m hm).1.lt ?_ ?_), (m3 m hm).2⟩, m4⟩
    · rintro e
      obtain ⟨cells, hc⟩ := (m3 m hm).1.typed
      have := h.tm.hb; rw [← e, hc] at this; injection this with this; injection this with _ this; revert this; decide
    · rintro e
      obtain ⟨cells, hc⟩ := (m3 m hm).1.typed
      obtain ⟨⟨es, clock, hb, _⟩, _⟩ := h.tm.hs
      rw [← e, hc] at hb; cases hb
  · refine Kd.C_of_reads (d := (0 : Int)) (enc := Value.int .u8) (h1 := fun _ => rfl) ?_
    have hr := Kd.reads_of_C (enc := Value.int .u8) (d := (0 : Int)) (h1 := fun _ => rfl) h.hc
    obtain ⟨r1, r2, r3⟩ := hr
    refine ⟨r1, r2, fun hp => ?_⟩
    obtain ⟨ad, e, hc⟩ := r3 hp
    cases e
    refine ⟨_, rfl, fun j hj => hk.cell (hc j hj) ?_⟩
    rw [add_plain]
    intro hy; have := hY _ hy; simp at this; omega

theorem TrieM.mono {W : World} {X X' : Nat → Prop} {b rs rv : Nat} {c0 c1 c2 c3 : Value} {T : TrieS} (h : TrieM W X b rs rv c0 c1 c2 c3 T) (hX : ∀ k, X k → X' k) : TrieM W X' b rs rv c0 c1 c2 c3 T :=
  ⟨h.hb, h.hs, h.hv.keep hX (fun _ _ => rfl), hX _ h.xb, hX _ h.xs, hX _ h.xv, h.ne⟩
theorem row_of_clone {w1 w2 : World} {base : Nat} {v : Value} {xs : List Int} (n : Int) (h : (Kd.int .i64).R 3 w1 base (fun _ => True) v xs) (hp : 0 < xs.length) :
    ∃ m : NodeV, m.n = n ∧ m.xs = xs ∧ v = m.val ∧ base ≤ m.g ∧ RowAt w1 m := by
  obtain ⟨g, cap, e, hg, hlt, cells, hcell⟩ := Kd.R_form h hp
  refine ⟨⟨n, xs, g, cap⟩, rfl, rfl, e, hg, hp, ?_⟩
  subst e
  exact Kd.R_lower (Kd.R_of_own (Kd.own_of_R h) (fun k hk => by simp [NodeV.val, Value.ownBlock] at hk; exact hk.symm)) (Nat.zero_le _)
/-- A node's first values: a new row. -/
theorem put_new {W wr w1 w2 : World} {Y : Nat → Prop} {b rs rv bx nb : Nat} {c0 c1 c2 c3 u v1 : Value} {V : List (Int × List Int)} {s : ByteArray} {S : List ((Int × Int) × Int)} {N a : Int} {v : List Int} {M : List NodeV} {base : Nat}
    (h : PutSt W wr Y b rs rv bx nb c0 c1 c2 c3 V s u S N) (hY : ∀ k, Y k → k < W.heap.size) (hv : 0 < v.length) (hb1 : Below wr.heap.size wr w1) (hR : (Kd.int .i64).R 3 w1 base (fun _ => True) v1 v)
    (hMV : M.map (fun m => (m.n, m.xs)) = V) (hm2 : MapIs Try.prog 3 w2 rv ((M.map fun m => (Value.int .i64 m.n, m.val)) ++ [(.int .i64 a, v1)])) (hg : w1.grownBy w2 (some rv)) (hMr : ∀ m, m ∈ M → RowAt wr m ∧ Y m.g) (hMp : M.Pairwise (fun m m' => m.g ≠ m'.g)) (hl : lkV V a = none) (hbase : base = wr.heap.size) :
    TrieM w2 (fun k => Y k ∨ (W.heap.size ≤ k ∧ k < w2.heap.size)) b rs rv c0 c1 c2 c3 ⟨S, N, putV V a v⟩ ∧ Keep Y W w2 := by
  obtain ⟨m, hmn, hmx, hmv, hmg, hrow⟩ := row_of_clone (w2 := w2) a hR hv
  have hk1 : Keep Y wr w1 := Keep.of_below hb1
  have hk2 : Keep Y w1 w2 := Keep.of_grown hg (fun k e => by cases e; exact h.tm.xv)
  have hk : Keep Y W w2 := (h.kp.trans hk1 (fun _ _ h => h)).trans hk2 (fun _ _ h => h)
  have hsz := hb1.size
  have hWs := h.kp.size
  have h12 := hg.size
  have hvb := h.tm.rv_ne
  have hsame : ∀ k, k < wr.heap.size → k ≠ rv → w2.heap[k]? = wr.heap[k]? := fun k hk hr => (hg.block k (by omega) (by simpa using hr)).trans (hb1.block k hk)
  have hrvlt : rv < wr.heap.size := by
    obtain ⟨_, _, hm, _⟩ := h.tm.hv; exact hm.lt
  have hrow2 : RowAt w2 m := hrow.keep (hg.block m.g hrow.lt (by
    intro e; simp at e
    obtain ⟨cells, hc⟩ := hrow.typed
    obtain ⟨_, _, ⟨⟨es, clock, hx, _⟩, _⟩, _⟩ := h.tm.hv
    rw [e, hb1.block rv hrvlt, hx] at hc; cases hc))
  refine ⟨⟨?_, h.tm.hs.keep (hsame rs h.tm.hs.lt h.tm.ne), ⟨M ++ [m], ?_, ?_, ?_, ?_⟩, .inl h.tm.xb, .inl h.tm.xs, .inl h.tm.xv, h.tm.ne⟩, hk⟩
  · exact (hsame b (blk_lt h.tm.hb) hvb.symm).trans h.tm.hb
  · rw [List.map_append, hMV]
    unfold putV; rw [hl]
    simp [hmn, hmx]
  · rw [List.map_append]
    simpa [hmn, hmv] using hm2
  · intro m' hm'
    rcases List.mem_append.1 hm' with hm' | hm'
    · refine ⟨(hMr m' hm').1.keep (hsame m'.g (hMr m' hm').1.lt ?_), .inl (hMr m' hm').2⟩
      intro e
      obtain ⟨cells, hc⟩ := (hMr m' hm').1.typed
      obtain ⟨_, _, ⟨⟨es, clock, hx, _⟩, _⟩, _⟩ := h.tm.hv
      rw [e, hx] at hc; cases hc
    · rw [List.mem_singleton.1 hm']
      exact ⟨hrow2, .inr ⟨by omega, hrow2.lt⟩⟩
  · refine List.pairwise_append.2 ⟨hMp, List.pairwise_singleton _ _, fun x hx y hy => ?_⟩
    rw [List.mem_singleton.1 hy]
    have := (hMr x hx).1.lt
    omega
theorem pw_ne {α : Type} {f : α → Nat} : ∀ {M : List α}, M.Pairwise (fun m m' => f m ≠ f m') → ∀ {x y : α}, x ∈ M → y ∈ M → f x = f y → x = y
  | [], _, _, _, hx, _, _ => nomatch hx
  | a :: M, h, x, y, hx, hy, e => by
    obtain ⟨h1, h2⟩ := List.pairwise_cons.1 h
    rcases List.mem_cons.1 hx with hx' | hx'
    · rcases List.mem_cons.1 hy with hy' | hy'
      · rw [hx', hy']
      · exact absurd e (by rw [hx']; exact h1 _ hy')
    · rcases List.mem_cons.1 hy with hy' | hy'
      · exact absurd e.symm (by rw [hy']; exact h1 _ hx')
      · exact pw_ne h2 hx' hy' e
theorem pw_n {P : Program} {k : TypeId} {W : World} {r : Nat} {M : List NodeV} (h : MapIs P k W r (M.map fun m => (.int .i64 m.n, m.val))) {x y : NodeV} (hx : x ∈ M) (hy : y ∈ M) (e : x.n = y.n) : x = y ∨ x.val = y.val := by
  right
  exact pair_uniq h.2.2 (x := .int .i64 x.n) (List.mem_map.2 ⟨x, hx, rfl⟩) (List.mem_map.2 ⟨y, hy, by rw [e]⟩)
theorem val_g {x y : NodeV} (h : x.val = y.val) : x.g = y.g := by
  unfold NodeV.val at h
  simp only [Value.slice.injEq, Option.some.injEq, Addr.mk.injEq] at h
  exact h.1.1
/-- A node's later values: its row, turned. -/
theorem put_old {W wr w2 : World} {Y : Nat → Prop} {b rs rv bx nb : Nat} {c0 c1 c2 c3 u : Value} {V : List (Int × List Int)} {s : ByteArray} {S : List ((Int × Int) × Int)} {N a : Int} {v : List Int} {M : List NodeV} {m : NodeV}
    (h : PutSt W wr Y b rs rv bx nb c0 c1 c2 c3 V s u S N) (hk1 : Keep (fun j => j = m.g) wr w2) (hR : (Kd.int .i64).R 3 w2 0 (fun j => j = m.g) (.slice (some ⟨m.g, 0, none⟩) v.length m.cap) (zipMax m.xs v)) (hlen : m.xs.length = v.length)
    (hMV : M.map (fun m => (m.n, m.xs)) = V) (hMm : MapIs Try.prog 3 wr rv (M.map fun m => (Value.int .i64 m.n, m.val))) (hMr : ∀ m, m ∈ M → RowAt wr m ∧ Y m.g) (hMp : M.Pairwise (fun m m' => m.g ≠ m'.g)) (hmM : m ∈ M) (hmn : m.n = a) (hl : lkV V a = some m.xs) :
    TrieM w2 (fun k => Y k ∨ (W.heap.size ≤ k ∧ k < w2.heap.size)) b rs rv c0 c1 c2 c3 ⟨S, N, putV V a v⟩ ∧ Keep Y W w2 := by
  have hk : Keep Y W w2 := h.kp.trans hk1 (fun k _ e => by rw [e]; exact (hMr m hmM).2)
  have hmt := (hMr m hmM).1.typed
  have hbm : b ≠ m.g := by
    rintro e
    obtain ⟨cells, hc⟩ := hmt
    have := h.tm.hb; rw [e, hc] at this; injection this with this; injection this with _ this; revert this; decide
  have hsm : rs ≠ m.g := by
    rintro e
    obtain ⟨cells, hc⟩ := hmt
    obtain ⟨⟨es, clock, hb, _⟩, _⟩ := h.tm.hs
    rw [e, hc] at hb; cases hb
  have hvm : rv ≠ m.g := by
    rintro e
    obtain ⟨cells, hc⟩ := hmt
    obtain ⟨⟨es, clock, hb, _⟩, _⟩ := hMm
    rw [e, hc] at hb; cases hb
  refine ⟨⟨hk1.blk h.tm.hb hbm, h.tm.hs.keep (hk1.block rs h.tm.hs.lt hsm), ⟨M.map fun x => if x.n = a then ⟨x.n, zipMax x.xs v, x.g, x.cap⟩ else x, ?_, ?_, ?_, ?_⟩, .inl h.tm.xb, .inl h.tm.xs, .inl h.tm.xv, h.tm.ne⟩, hk⟩
  · unfold putV
    rw [hl, ← hMV, List.map_map, List.map_map]
    refine List.map_congr_left fun x _ => ?_
    simp only [Function.comp]
    split <;> rfl
  · have e : (M.map fun x => if x.n = a then (⟨x.n, zipMax x.xs v, x.g, x.cap⟩ : NodeV) else x).map (fun m => (Value.int .i64 m.n, m.val)) = M.map fun m => (Value.int .i64 m.n, m.val) := by
      rw [List.map_map]
      refine List.map_congr_left fun x _ => ?_
      simp only [Function.comp]
      split
      · simp [NodeV.val, zipMax_length]
      · rfl
    rw [e]; exact hMm.keep (hk1.block rv hMm.lt hvm)
  · intro x' hx'
    obtain ⟨x, hx, rfl⟩ := List.mem_map.1 hx'
    by_cases hxa : x.n = a
    · have hxm : x.g = m.g := (pw_n hMm hx hmM (by rw [hxa, hmn])).elim (fun e => by rw [e]) val_g
      obtain rfl := pw_ne (f := NodeV.g) hMp hx hmM hxm
      simp only [hxa, if_true]
      refine ⟨⟨?_, ?_⟩, .inl (hMr x hx).2⟩
      · show 0 < (zipMax x.xs v).length
        rw [zipMax_length]; exact (hMr x hx).1.1
      · unfold NodeV.val
        simp only [zipMax_length, hlen]
        exact hR
    · simp only [hxa, if_false]
      refine ⟨(hMr x hx).1.keep (hk1.block x.g (hMr x hx).1.lt (fun e => hxa ?_)), .inl (hMr x hx).2⟩
      rw [pw_ne (f := NodeV.g) hMp hx hmM e]; exact hmn
  · rw [List.pairwise_map]
    refine hMp.imp fun {x y} hne => ?_
    have : ∀ z : NodeV, (if z.n = a then (⟨z.n, zipMax z.xs v, z.g, z.cap⟩ : NodeV) else z).g = z.g := fun z => by split <;> rfl
    rw [this, this]; exact hne
end Go.Proofs.Ytcignolfkocjeaa
