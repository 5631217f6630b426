/- A trie as plain lists, and where it lies. -/
import Derived.Test.YtcignolfkocjeaaLiang3
import Derived.Test.YtcignolfkocjeaaMaps
import Derived.Test.YtcignolfkocjeaaOnce
import Derived.Test.YtcignolfkocjeaaOver
set_option linter.unusedVariables false
set_option linter.unusedSimpArgs false
namespace Go.Proofs.Ytcignolfkocjeaa
open Go.RowKit Go.Proofs.YtcignolfkocjeaaW.PrintWords

/-- Steps, how many nodes there are, nodes' values. -/
structure TrieS where
  S : List ((Int × Int) × Int)
  N : Int
  V : List (Int × List Int)
def entS (e : (Int × Int) × Int) : Value × Value := (keyS e.1.1 e.1.2, .int .i64 e.2)
def lkS (S : List ((Int × Int) × Int)) (a b : Int) : Option Int := (S.find? (fun e => decide (e.1 = (a, b)))).map (·.2)
def lkV (V : List (Int × List Int)) (a : Int) : Option (List Int) := (V.find? (fun e => decide (e.1 = a))).map (·.2)
/-- Letters put in, from a node on: steps, nodes, the node where they end. -/
def stepsIn : List Int → List ((Int × Int) × Int) → Int → Int → List ((Int × Int) × Int) × Int × Int
  | [], S, N, at_ => (S, N, at_)
  | b :: l, S, N, at_ => match lkS S at_ b with
    | some n => stepsIn l S N n
    | none => stepsIn l (S ++ [((at_, b), N)]) (N + 1) N
def zipMax : List Int → List Int → List Int
  | o :: os, p :: ps => max o p :: zipMax os ps
  | os, _ => os
def putV (V : List (Int × List Int)) (at_ : Int) (v : List Int) : List (Int × List Int) :=
  match lkV V at_ with
  | none => V ++ [(at_, v)]
  | some _ => V.map fun e => if e.1 = at_ then (e.1, zipMax e.2 v) else e
def putT (T : TrieS) (l v : List Int) : TrieS := ⟨(stepsIn l T.S T.N 0).1, (stepsIn l T.S T.N 0).2.1, putV T.V (stepsIn l T.S T.N 0).2.2 v⟩
def emptyT : TrieS := ⟨[], 1, []⟩
def buildT (L : List PatR) : TrieS := L.foldl (fun T x => putT T (bytesOf x.f0) x.f1) emptyT

theorem lkS_some {S : List ((Int × Int) × Int)} {a b n : Int} (h : lkS S a b = some n) : (keyS a b, Value.int .i64 n) ∈ S.map entS := by
  unfold lkS at h
  obtain ⟨e, he, rfl⟩ := Option.map_eq_some_iff.1 h
  have h1 := List.mem_of_find?_eq_some he
  have h2 := List.find?_some he
  simp only [decide_eq_true_eq] at h2
  exact List.mem_map.2 ⟨e, h1, by unfold entS; rw [h2]⟩
theorem keyS_inj {a b a' b' : Int} (h : keyS a b = keyS a' b') : (a, b) = (a', b') := by
  unfold keyS at h
  simp only [Value.agg.injEq, Array.mk.injEq, List.cons.injEq, Value.int.injEq, true_and, and_true] at h
  rw [h.1, h.2]
theorem lkS_none {S : List ((Int × Int) × Int)} {a b : Int} (h : lkS S a b = none) : ∀ p, p ∈ S.map entS → p.1 ≠ keyS a b := by
  intro p hp e
  obtain ⟨x, hx, rfl⟩ := List.mem_map.1 hp
  unfold lkS at h
  rw [Option.map_eq_none_iff, List.find?_eq_none] at h
  exact h x hx (by simp only [decide_eq_true_eq]; exact keyS_inj e)

/-! ### where it lies -/
/-- Only these blocks, and new ones, may have turned. -/
structure Keep (X : Nat → Prop) (w W : World) : Prop where
  os : W.os = w.os
  tape : W.tape = w.tape
  output : W.output = w.output
  size : w.heap.size ≤ W.heap.size
  block : ∀ k, k < w.heap.size → ¬ X k → W.heap[k]? = w.heap[k]?
theorem Keep.refl (X : Nat → Prop) (w : World) : Keep X w w := ⟨rfl, rfl, rfl, Nat.le_refl _, fun _ _ _ => rfl⟩
theorem Keep.trans {X Y : Nat → Prop} {w W W' : World} (h : Keep X w W) (k : Keep Y W W') (hY : ∀ k, k < w.heap.size → Y k → X k) : Keep X w W' :=
  ⟨k.os.trans h.os, k.tape.trans h.tape, k.output.trans h.output, Nat.le_trans h.size k.size, fun i hi hx => (k.block i (Nat.lt_of_lt_of_le hi h.size) (fun hy => hx (hY i hi hy))).trans (h.block i hi hx)⟩
theorem Keep.mono {X Y : Nat → Prop} {w W : World} (h : Keep X w W) (hY : ∀ k, k < w.heap.size → X k → Y k) : Keep Y w W :=
  ⟨h.os, h.tape, h.output, h.size, fun i hi hy => h.block i hi (fun hx => hy (hY i hi hx))⟩
theorem Keep.of_below {X : Nat → Prop} {w W : World} (h : Below w.heap.size w W) : Keep X w W := ⟨h.os, h.tape, h.output, h.size, fun k hk _ => h.block k hk⟩
theorem Keep.of_grown {X : Nat → Prop} {w W : World} {b : Option Nat} (h : w.grownBy W b) (hb : ∀ k, b = some k → X k) : Keep X w W :=
  ⟨h.os, h.tape, h.output, h.size, fun k hk hx => h.block k hk (fun e => hx (hb k e.symm))⟩
theorem Keep.set {X : Nat → Prop} {w : World} {p : Addr} (hp : X p.block) (u : Value) : Keep X w (w.setCell p u) :=
  ⟨rfl, rfl, rfl, by simp [World.setCell], fun k hk hx => Below.heap_setCell w p u k (fun e => hx (by rw [e]; exact hp))⟩
theorem Keep.drew {X : Nat → Prop} (w : World) : Keep X w w.drew := ⟨rfl, rfl, rfl, Nat.le_refl _, fun _ _ _ => rfl⟩
theorem Keep.below {X : Nat → Prop} {w W : World} {B : Nat} (h : Keep X w W) (hB : B ≤ w.heap.size) (hX : ∀ k, X k → B ≤ k) : Below B w W :=
  ⟨h.os, h.tape, h.output, h.size, fun k hk => h.block k (by omega) (fun hx => by have := hX k hx; omega)⟩
theorem Keep.blk {X : Nat → Prop} {w W : World} {k : Nat} {o : Obj} (h : Keep X w W) (hk : w.heap[k]? = some o) (hx : ¬ X k) : W.heap[k]? = some o := (h.block k (blk_lt hk) hx).trans hk
theorem Keep.cell {X : Nat → Prop} {w W : World} {a : Addr} {v : Value} (h : Keep X w W) (hc : w.cell? a = some v) (hx : ¬ X a.block) : W.cell? a = some v := by
  have hlt : a.block < w.heap.size := by
    rcases Nat.lt_or_ge a.block w.heap.size with h' | h'
    · exact h'
    · simp [World.cell?, Array.getElem?_eq_none h'] at hc
  unfold World.cell? at hc ⊢
  rw [h.block _ hlt hx]; exact hc

/-- A node's values: where they lie. -/
structure NodeV where
  n : Int
  xs : List Int
  g : Nat
  cap : Nat
def NodeV.val (m : NodeV) : Value := .slice (some ⟨m.g, 0, none⟩) m.xs.length m.cap
def RowAt (W : World) (m : NodeV) : Prop := 0 < m.xs.length ∧ (Kd.int .i64).R 3 W 0 (fun k => k = m.g) m.val m.xs
theorem RowAt.keep {W W' : World} {m : NodeV} (h : RowAt W m) (hk : W'.heap[m.g]? = W.heap[m.g]?) : RowAt W' m :=
  ⟨h.1, Kd.R_move h.2 (fun k e => by rw [e]; exact hk)⟩
theorem RowAt.lt {W : World} {m : NodeV} (h : RowAt W m) : m.g < W.heap.size := Kd.R_lt h.2 m.g rfl
theorem RowAt.typed {W : World} {m : NodeV} (h : RowAt W m) : ∃ cells, W.heap[m.g]? = some (.cells cells 3 (0, 0)) := Kd.R_typed h.2 m.g rfl
/-- Block rv is a map of nodes' values. -/
def ValsAt (W : World) (X : Nat → Prop) (rv : Nat) (V : List (Int × List Int)) : Prop :=
  ∃ M : List NodeV, M.map (fun m => (m.n, m.xs)) = V ∧ MapIs Try.prog 3 W rv (M.map fun m => (.int .i64 m.n, m.val)) ∧ (∀ m, m ∈ M → RowAt W m ∧ X m.g) ∧ M.Pairwise (fun m m' => m.g ≠ m'.g)
theorem ValsAt.keep {W W' : World} {X X' : Nat → Prop} {rv : Nat} {V : List (Int × List Int)} (h : ValsAt W X rv V) (hX : ∀ k, X k → X' k) (hk : ∀ k, k = rv ∨ (X k ∧ ∃ cells, W.heap[k]? = some (.cells cells 3 (0, 0))) → W'.heap[k]? = W.heap[k]?) : ValsAt W' X' rv V := by
  obtain ⟨M, h1, h2, h3, h4⟩ := h
  exact ⟨M, h1, h2.keep (hk rv (.inl rfl)), fun m hm => ⟨(h3 m hm).1.keep (hk m.g (.inr ⟨(h3 m hm).2, (h3 m hm).1.typed⟩)), hX _ (h3 m hm).2⟩, h4⟩

/-- Block b is a trie that is made. -/
structure TrieM (W : World) (X : Nat → Prop) (b rs rv : Nat) (c0 c1 c2 c3 : Value) (T : TrieS) : Prop where
  hb : W.heap[b]? = some (.cells #[c0, c1, c2, c3, .int .i64 T.N, .map (some rs), .map (some rv)] 80 (0, 0))
  hs : MapIs Try.prog 86 W rs (T.S.map entS)
  hv : ValsAt W X rv T.V
  xb : X b
  xs : X rs
  xv : X rv
  ne : rs ≠ rv
end Go.Proofs.Ytcignolfkocjeaa
