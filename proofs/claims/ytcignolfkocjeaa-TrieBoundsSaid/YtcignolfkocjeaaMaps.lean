/- Maps keyed by whole numbers and by steps, entry by entry in the order in which they came. -/
import Derived.Test.YtcignolfkocjeaaBase
import Derived.MapKept
import Derived.Maps.Own
import Derived.Maps.Keyed
import Derived.DeepKeys4
import Derived.ChangeMaps5
set_option linter.unusedVariables false
set_option linter.unusedSimpArgs false
namespace Go.Proofs.Ytcignolfkocjeaa
open Go.RowKit Go.Proofs.YtcignolfkocjeaaW.PrintWords
open Go.Maps (Keyed)
open Go.ChangeMaps (setBlock)

/-- Block r is a map of these entries, in the order in which they came; each key may be one, and no two are alike. -/
def MapIs (P : Program) (k : TypeId) (W : World) (r : Nat) (l : List (Value × Value)) : Prop :=
  (∃ es clock, W.heap[r]? = some (.map es clock) ∧ es.toList.map (fun e : MapEntry => (e.key, e.val)) = l) ∧ (∀ p, p ∈ l → ∃ q, keyOf P k p.1 = some q) ∧ l.Pairwise (fun p q => p.1 ≠ q.1)
theorem MapIs.keep {P : Program} {k : TypeId} {W W' : World} {r : Nat} {l : List (Value × Value)} (h : MapIs P k W r l) (hk : W'.heap[r]? = W.heap[r]?) : MapIs P k W' r l := by
  obtain ⟨⟨es, clock, hb, hl⟩, h2⟩ := h
  exact ⟨⟨es, clock, hk.trans hb, hl⟩, h2⟩
theorem MapIs.lt {P : Program} {k : TypeId} {W : World} {r : Nat} {l : List (Value × Value)} (h : MapIs P k W r l) : r < W.heap.size := by
  obtain ⟨⟨es, clock, hb, hl⟩, h2⟩ := h
  exact (Array.getElem?_eq_some_iff.1 hb).1
theorem MapIs.made (P : Program) (k : TypeId) (W : World) : MapIs P k (W.alloc (.map #[] 0)) W.heap.size [] :=
  ⟨⟨#[], 0, (MapKept.heap_alloc W _).1, rfl⟩, ⟨fun p hp => absurd hp (by simp), List.Pairwise.nil⟩⟩

section
variable {P : Program} {k t e : TypeId} {W : World} {r : Nat} {l : List (Value × Value)} {key : Value}
theorem pair_uniq (hp : l.Pairwise (fun p q => p.1 ≠ q.1)) {x v v' : Value} (h : (x, v) ∈ l) (h' : (x, v') ∈ l) : v = v' := by
  induction l with
  | nil => cases h
  | cons p l ih =>
    obtain ⟨h1, h2⟩ := List.pairwise_cons.1 hp
    rcases List.mem_cons.1 h with h | h
    · rcases List.mem_cons.1 h' with h' | h'
      · rw [← h] at h'; exact (Prod.mk.inj h').2.symm
      · exact absurd (by rw [← h]) (h1 _ h')
    · rcases List.mem_cons.1 h' with h' | h'
      · exact absurd (by rw [← h']) (h1 _ h)
      · exact ih h2 h h'
theorem look_yes (c : Bool) (K : Keyed P k) (ht : P.underlying t = some (.map k e)) (h : MapIs P k W r l) {v : Value} (hv : (key, v) ∈ l) :
    (Instr.lookup t (.map (some r)) key c).run P W = .ok (if c then .tuple #[v, .bool true] else v) W := by
  obtain ⟨⟨es, clock, hb, hl⟩, hk, hp⟩ := h
  obtain ⟨q, hq'⟩ := hk _ hv
  have hq : keyOf P k key = some q := hq'
  have hkeys : ∀ x ∈ es.toList, ∃ q, keyOf P k x.key = some q := fun x hx => hk (x.key, x.val) (by rw [← hl]; exact List.mem_map.2 ⟨x, hx, rfl⟩)
  rcases K.find W hq es.toList hkeys with ⟨h1, h2⟩ | ⟨j, e0, h1, h2, h3⟩
  · rw [← hl] at hv
    obtain ⟨x, hx, he⟩ := List.mem_map.1 hv
    exact absurd (Prod.mk.inj he).1 (h2 x hx)
  · have hm0 : (key, e0.val) ∈ l := by rw [← hl, ← h3]; exact List.mem_map.2 ⟨e0, List.mem_of_getElem? h2, rfl⟩
    have hev := pair_uniq hp hv hm0
    subst hev
    simp [Instr.lookup, run_underlying ht, MapKept.run_getObj_map hb, K.check W _ hq, h1, Result.andThen]
theorem look_no (c : Bool) (K : Keyed P k) (ht : P.underlying t = some (.map k e)) (h : MapIs P k W r l) (hk : ∃ q, keyOf P k key = some q) {z : Value} (hz : (zeroValue e).run P W = .ok z W) (hv : ∀ p, p ∈ l → p.1 ≠ key) :
    (Instr.lookup t (.map (some r)) key c).run P W = .ok (if c then .tuple #[z, .bool false] else z) W := by
  obtain ⟨⟨es, clock, hb, hl⟩, hks, hp⟩ := h
  obtain ⟨q, hq⟩ := hk
  have hkeys : ∀ x ∈ es.toList, ∃ q, keyOf P k x.key = some q := fun x hx => hks (x.key, x.val) (by rw [← hl]; exact List.mem_map.2 ⟨x, hx, rfl⟩)
  rcases K.find W hq es.toList hkeys with ⟨h1, h2⟩ | ⟨j, e0, h1, h2, h3⟩
  · simp [Instr.lookup, run_underlying ht, MapKept.run_getObj_map hb, K.check W _ hq, h1, hz, Result.andThen]
  · exact absurd h3 (hv (e0.key, e0.val) (by rw [← hl]; exact List.mem_map.2 ⟨e0, List.mem_of_getElem? h2, rfl⟩))
theorem update_no (K : Keyed P k) (ht : P.underlying t = some (.map k e)) (h : MapIs P k W r l) (hk : ∃ q, keyOf P k key = some q) (hv : ∀ p, p ∈ l → p.1 ≠ key) (val : Value) :
    ∃ W', (Instr.mapUpdate t (.map (some r)) key val).run P W = .ok () W' ∧ MapIs P k W' r (l ++ [(key, val)]) ∧ W.grownBy W' (some r) := by
  obtain ⟨⟨es, clock, hb, hl⟩, hks, hp⟩ := h
  have hk0 := hk
  obtain ⟨q, hq⟩ := hk
  have hkeys : ∀ x ∈ es.toList, ∃ q, keyOf P k x.key = some q := fun x hx => hks (x.key, x.val) (by rw [← hl]; exact List.mem_map.2 ⟨x, hx, rfl⟩)
  rcases K.find W hq es.toList hkeys with ⟨h1, h2⟩ | ⟨j, e0, h1, h2, h3⟩
  · refine ⟨setBlock W r (.map (es.push ⟨key, val, clock⟩) (clock + 1)), ?_, ⟨⟨_, _, Go.ChangeMaps.heap_setBlock_same hb _, ?_⟩, ?_, ?_⟩, ⟨rfl, rfl, rfl, by simp [setBlock], fun i _ hi => Go.ChangeMaps.heap_setBlock_other hb _ (fun e => hi (by rw [e]))⟩⟩
    · simp [Instr.mapUpdate, run_underlying ht, MapKept.run_getObj_map hb, K.check W false hq, h1, MapKept.run_setObj_map _ hb, Result.andThen, setBlock]
    · simp [hl]
    · intro p hp'
      rcases List.mem_append.1 hp' with hp' | hp'
      · exact hks p hp'
      · rw [List.mem_singleton.1 hp']; exact hk0
    · refine List.pairwise_append.2 ⟨hp, List.pairwise_singleton _ _, fun a ha b hb' => ?_⟩
      rw [List.mem_singleton.1 hb']
      exact hv a ha
  · exact absurd h3 (hv (e0.key, e0.val) (by rw [← hl]; exact List.mem_map.2 ⟨e0, List.mem_of_getElem? h2, rfl⟩))
/-- 'm[k] = v' at a key that stands not yet, at the operation. -/
theorem wpList_update_no {ops : Array Oper} {rest : List Oper} {o : Oper} {a : Act} {Q : Exit → Act → World → Prop}
    (hg : o.guard = none) (m x v : Operand) (hop : o.op = Op.mapUpdate t m x v) (K : Keyed P k) (ht : P.underlying t = some (.map k e)) (hm : a.eval m = .map (some r)) (h : MapIs P k W r l)
    (key val : Value) (hx : a.eval x = key) (hvv : a.eval v = val) (hk : ∃ q, keyOf P k key = some q) (hv : ∀ p, p ∈ l → p.1 ≠ key)
    (hK : ∀ w', MapIs P k w' r (l ++ [(key, val)]) → W.grownBy w' (some r) → wpList P ops Q rest (a.put o.dst undef) w') :
    wpList P ops Q (o :: rest) a W := by
  refine wpList_plain hg fun K' hK' => ?_
  obtain ⟨w', hrun, r1, r2⟩ := update_no K ht h hk hv val
  unfold Oper.wp
  simp [execOp, hop, hm, hx, hvv, hrun, Result.andThen]
  exact hK' _ _ (hK w' r1 r2)
end

/-! ### keys that are steps -/
def keyS (a b : Int) : Value := .agg #[.int .i64 a, .int .u8 b]
theorem laid_out : laidOutB Try.prog = true := by kernel_rfl
theorem law_step : Keyed Try.prog 86 := Keyed.of_law (deep_law_laid laid_out (m := 2) (by omega) (of_decide_eq_true (by kernel_rfl)) (by kernel_rfl) (by kernel_rfl))
theorem law_int : Keyed Try.prog 3 := Go.Maps.int_keyed Try.underlying3
theorem zero_int (w : World) : (zeroValue 3).run Try.prog w = .ok (.int .i64 0) w := by kernel_rfl
theorem zero_ints (w : World) : (zeroValue 32).run Try.prog w = .ok (.slice none 0 0) w := by kernel_rfl
theorem key_step {a b : Int} (ha : (Lit.int .i64 a).wf = true) (hb : (Lit.int .u8 b).wf = true) : ∃ q, keyOf Try.prog 86 (keyS a b) = some q := by
  have h1 : Try.prog.keyType 86 = true := by kernel_rfl
  unfold keyOf
  rw [Try.underlying86]
  have h2 : (keyS a b).formed Try.prog 86 = true := by
    simp only [keyS, Value.formed, Try.underlying86]
    have hc : Try.prog.cellsOf 86 = 2 := by kernel_rfl
    rw [hc]; rfl
  have hc : Try.prog.cellsOf 86 = 2 := by kernel_rfl
  have hc3 : Try.prog.cellsOf 3 = 1 := by kernel_rfl
  have hc5 : Try.prog.cellsOf 5 = 1 := by kernel_rfl
  have hn : ∃ n, Try.prog.types.size = n + 1 := ⟨Try.prog.types.size - 1, by have : 0 < Try.prog.types.size := of_decide_eq_true (by kernel_rfl); omega⟩
  obtain ⟨n, hn⟩ := hn
  have h3 : Try.prog.keyLits (Try.prog.types.size + 1) 86 (keyS a b).cells.toList = some [.int .i64 a, .int .u8 b] := by
    rw [hn]
    simp [Program.keyLits, keyS, Value.cells, Try.underlying86, Try.underlying3, Try.underlying5, hc, hc3, hc5, ha, hb]
  simp only [h1, h2, h3, Bool.true_and, if_true, Option.map_some]
  exact ⟨_, rfl⟩
theorem key_int {a : Int} (ha : (Lit.int .i64 a).wf = true) : ∃ q, keyOf Try.prog 3 (.int .i64 a) = some q := ⟨_, Go.Maps.keyOf_int_mk Try.underlying3 ha⟩
end Go.Proofs.Ytcignolfkocjeaa
