/- What tfm's Read reads: plain functions of the bytes. -/
import Derived.Test.YtllllmhekdcbiaaTfmRd
import Derived.Test.YtllllmhekdcbiaaTfmCheck3
set_option linter.unusedVariables false
set_option linter.unusedSimpArgs false
namespace Go.Proofs.Ytllllmhekdcbiaa
open Go.RowKit Go.Proofs.YtllllmhekdcbiaaW.PrintWords

/-- A font's parts. -/
structure FontR where
  s : Int
  d : Int
  f : Int
  l3 : List ChR
  l4 : List Int
  l5 : List Int
  l6 : List Int
  l7 : List Int
  l8 : List StR
  l9 : List Int
  l10 : List Int
/-- Numbers, what is left, and whether there were too few bytes. -/
abbrev Got := List Int × List Int × Bool
def tkTwos : Nat → List Int → Bool → Got
  | 0, l, bad => ([], l, bad)
  | k + 1, l, bad => ((tk 2 l bad).1 :: (tkTwos k (tk 2 l bad).2.1 (tk 2 l bad).2.2).1, (tkTwos k (tk 2 l bad).2.1 (tk 2 l bad).2.2).2)
theorem tkTwos_step {T : Got} {n kk : Nat} {xs lk : List Int} {bad : Bool} (hlt : kk < n) (h : T = (xs ++ (tkTwos (n - kk) lk bad).1, (tkTwos (n - kk) lk bad).2)) :
    T = ((xs ++ [(tk 2 lk bad).1]) ++ (tkTwos (n - (kk + 1)) (tk 2 lk bad).2.1 (tk 2 lk bad).2.2).1, (tkTwos (n - (kk + 1)) (tk 2 lk bad).2.1 (tk 2 lk bad).2.2).2) := by
  obtain ⟨d, hd⟩ : ∃ d, n - kk = d + 1 := ⟨n - kk - 1, by omega⟩
  rw [show n - (kk + 1) = d by omega, h, hd]
  simp [tkTwos]

def quads : List Int → List (Int × Int × Int × Int)
  | x0 :: x1 :: x2 :: x3 :: l => (x0, x1, x2, x3) :: quads l
  | _ => []
def chars (l : List Int) : List ChR := (quads l).map fun x => rdChar x.1 x.2.1 x.2.2.1 x.2.2.2
def steps (l : List Int) : List StR := (quads l).map fun x => rdStep x.1 x.2.1 x.2.2.1 x.2.2.2
theorem quads_append : ∀ (l : List Int) (x0 x1 x2 x3 : Int), 4 ∣ l.length → quads (l ++ [x0, x1, x2, x3]) = quads l ++ [(x0, x1, x2, x3)]
  | [], x0, x1, x2, x3, _ => rfl
  | a :: b :: c :: d :: l, x0, x1, x2, x3, h => by
    have h' : 4 ∣ l.length := by
      have : (a :: b :: c :: d :: l).length = l.length + 4 := rfl
      omega
    simp [quads, quads_append l x0 x1 x2 x3 h']
  | [_], _, _, _, _, h => by simp at h
  | [_, _], _, _, _, _, h => by simp at h
  | [_, _, _], _, _, _, _, h => by simp at h

/-- The last step: what was read may be a font. -/
def rdT (F : FontR) (t : Got) : Option FontR :=
  if t.2.2 = false ∧ t.2.1 = [] ∧ checkB F.s F.d F.f F.l3 F.l4 F.l5 F.l6 F.l7 F.l8 F.l9 F.l10 = true then some F else none
def rdP (m : List Int) (F : FontR) (t : Got) : Option FontR := rdT { F with l10 := t.1 } t
def rdK (m : List Int) (F : FontR) (t : Got) : Option FontR := rdP m { F with l9 := t.1 } (tkFixes (m.getD 7 0).toNat t.2.1 t.2.2)
def rdS (m : List Int) (F : FontR) (t : Got) : Option FontR := rdK m { F with l8 := steps t.1 } (tkFixes (m.getD 5 0).toNat t.2.1 t.2.2)
def rd7 (m : List Int) (F : FontR) (t : Got) : Option FontR := rdS m { F with l7 := t.1 } (tkEach (m.getD 4 0).toNat t.2.1 t.2.2)
def rd6 (m : List Int) (F : FontR) (t : Got) : Option FontR := rd7 m { F with l6 := t.1 } (tkFixes (m.getD 3 0).toNat t.2.1 t.2.2)
def rd5 (m : List Int) (F : FontR) (t : Got) : Option FontR := rd6 m { F with l5 := t.1 } (tkFixes (m.getD 2 0).toNat t.2.1 t.2.2)
def rd4 (m : List Int) (F : FontR) (t : Got) : Option FontR := rd5 m { F with l4 := t.1 } (tkFixes (m.getD 1 0).toNat t.2.1 t.2.2)
def rd3 (m : List Int) (F : FontR) (t : Got) : Option FontR := rd4 m { F with l3 := chars t.1 } (tkFixes (m.getD 0 0).toNat t.2.1 t.2.2)
def rdI (f la : Int) (m : List Int) (s : Int) (t : Int × List Int × Bool) : Option FontR := rd3 m ⟨s, t.1, f, [], [], [], [], [], [], [], []⟩ (tkEach (la - f + 1).toNat t.2.1 t.2.2)
def rdH (f la : Int) (m : List Int) (t : Int × List Int × Bool) : Option FontR := rdI f la m t.1 (tk 4 t.2.1 t.2.2)
def rdG (f la : Int) (t : Got) : Option FontR := if la < f then none else if t.1.getD 6 0 = 0 then rdH f la t.1 (tk 4 t.2.1 t.2.2) else none
def rdF (f : Int) (t : Int × List Int × Bool) : Option FontR := rdG f t.1 (tkTwos 8 t.2.1 t.2.2)
def rdE (t : Int × List Int × Bool) : Option FontR := rdF t.1 (tk 2 t.2.1 t.2.2)
def rdC (t : Int × List Int × Bool) : Option FontR := if t.1 = 2 then rdE (tk 2 t.2.1 t.2.2) else none
def rdB (n : Nat) (t : Int × List Int × Bool) : Option FontR := if t.1 = ((n / 4 : Nat) : Int) then rdC (tk 2 t.2.1 t.2.2) else none
/-- The font that bytes are. -/
def rdA (l : List Int) : Option FontR := if l.length % 4 = 0 then rdB l.length (tk 2 l false) else none

theorem tk_keeps (sz : Nat) {l : List Int} (bad : Bool) (hb : Bytes l) : Bytes (tk sz l bad).2.1 ∧ (tk sz l bad).2.1.length ≤ l.length := by
  unfold tk; split
  · exact ⟨hb, Nat.le_refl _⟩
  · exact ⟨hb.drop sz, by simp⟩
theorem tk_range (sz : Nat) {l : List Int} (bad : Bool) (hb : Bytes l) : 0 ≤ (tk sz l bad).1 ∧ (tk sz l bad).1 < 256 ^ sz := by
  unfold tk; split
  · exact ⟨Int.le_refl 0, Int.pow_pos (by decide)⟩
  · exact unbe_range hb sz
theorem tkTwos_keeps : ∀ (n : Nat) {l : List Int} (bad : Bool), Bytes l → Bytes (tkTwos n l bad).2.1 ∧ (tkTwos n l bad).2.1.length ≤ l.length ∧ (tkTwos n l bad).1.length = n ∧ ∀ x, x ∈ (tkTwos n l bad).1 → 0 ≤ x ∧ x < 65536
  | 0, l, bad, hb => ⟨hb, Nat.le_refl _, rfl, fun x hx => by simp [tkTwos] at hx⟩
  | n + 1, l, bad, hb => by
    have h1 := tk_keeps 2 bad hb
    have h2 := tkTwos_keeps n (tk 2 l bad).2.2 h1.1
    have h3 := tk_range 2 bad hb
    refine ⟨h2.1, Nat.le_trans h2.2.1 h1.2, by simp [tkTwos, h2.2.2.1], fun x hx => ?_⟩
    simp only [tkTwos, List.mem_cons] at hx
    rcases hx with rfl | hx
    · exact ⟨h3.1, by have := h3.2; omega⟩
    · exact h2.2.2.2 x hx
theorem tkFixes_keeps : ∀ (n : Nat) {l : List Int} (bad : Bool), Bytes l → Bytes (tkFixes n l bad).2.1 ∧ (tkFixes n l bad).2.1.length ≤ l.length
  | 0, l, bad, hb => ⟨hb, Nat.le_refl _⟩
  | n + 1, l, bad, hb => by
    unfold tkFixes; split
    · exact ⟨hb, Nat.le_refl _⟩
    · have h2 := tkFixes_keeps n bad (hb.drop 4)
      exact ⟨h2.1, Nat.le_trans h2.2 (by simp)⟩
theorem tkEach_keeps : ∀ (n : Nat) {l : List Int} (bad : Bool), Bytes l → Bytes (tkEach n l bad).2.1 ∧ (tkEach n l bad).2.1.length ≤ l.length
  | 0, l, bad, hb => ⟨hb, Nat.le_refl _⟩
  | n + 1, l, bad, hb => by
    unfold tkEach; split
    · exact ⟨hb, Nat.le_refl _⟩
    · have h2 := tkEach_keeps n bad (hb.drop 4)
      exact ⟨h2.1, Nat.le_trans h2.2 (by simp)⟩
end Go.Proofs.Ytllllmhekdcbiaa
