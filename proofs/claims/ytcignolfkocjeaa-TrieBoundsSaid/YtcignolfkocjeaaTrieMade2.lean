/- trie's made and Nodes, walked: a trie is made, once. -/
import Derived.Test.YtcignolfkocjeaaTrieMade
set_option linter.unusedVariables false
set_option linter.unusedSimpArgs false
namespace Go.Proofs.Ytcignolfkocjeaa
open Go.RowKit Go.Proofs.YtcignolfkocjeaaW.PrintWords

/-- Block b is a trie of these patterns, made or not yet. Y: what it may write; Z: where its patterns lie. -/
structure TrieIs (W : World) (Y Z : Nat → Prop) (b : Nat) (L : List PatR) : Prop where
  yb : Y b
  lt : ∀ k, Y k → k < W.heap.size
  zlt : ∀ k, Z k → k < W.heap.size
  dis : ∀ k, Z k → ¬ Y k
  row : ∃ c0, kPat.R 40 W 0 Z c0 L ∧ (W.heap[b]? = some (.cells #[c0, .int .u32 0, .int .i32 0, .int .u32 0, .int .i64 0, .map none, .map none] 80 (0, 0)) ∨ ∃ rs rv, TrieM W Y b rs rv c0 (.int .u32 1) (.int .i32 0) (.int .u32 0) (buildT L))
/-- It is made. -/
structure TrieDone (W : World) (Y Z : Nat → Prop) (b : Nat) (L : List PatR) (rs rv : Nat) (c0 : Value) : Prop where
  lt : ∀ k, Y k → k < W.heap.size
  zlt : ∀ k, Z k → k < W.heap.size
  dis : ∀ k, Z k → ¬ Y k
  row : kPat.R 40 W 0 Z c0 L
  tm : TrieM W Y b rs rv c0 (.int .u32 1) (.int .i32 0) (.int .u32 0) (buildT L)
theorem TrieDone.is {W : World} {Y Z : Nat → Prop} {b rs rv : Nat} {c0 : Value} {L : List PatR} (h : TrieDone W Y Z b L rs rv c0) : TrieIs W Y Z b L :=
  ⟨h.tm.xb, h.lt, h.zlt, h.dis, c0, h.row, .inr ⟨rs, rv, h.tm⟩⟩
theorem TrieIs.below {W W' : World} {Y Z : Nat → Prop} {b : Nat} {L : List PatR} (h : TrieIs W Y Z b L) (hb : Below W.heap.size W W') : TrieIs W' Y Z b L := by
  obtain ⟨c0, hR, hs⟩ := h.row
  refine ⟨h.yb, fun k hk => Nat.lt_of_lt_of_le (h.lt k hk) hb.size, fun k hk => Nat.lt_of_lt_of_le (h.zlt k hk) hb.size, h.dis, c0, Kd.R_below hR hb, ?_⟩
  rcases hs with hs | ⟨rs, rv, hs⟩
  · exact .inl ((hb.block b (h.lt b h.yb)).trans hs)
  · exact .inr ⟨rs, rv, hs.move fun k hk => hb.block k (h.lt k hk)⟩
theorem TrieM.reset {w1 : World} {X : Nat → Prop} {b rs rv : Nat} {c0 c1 c2 c3 : Value} {T : TrieS} (h : TrieM w1 X b rs rv c0 c1 c2 c3 T) (x y : Value) :
    TrieM ((w1.drew.setCell ⟨b, 1, none⟩ x).setCell ⟨b, 2, none⟩ y) X b rs rv c0 x y c3 T := by
  have hk : ∀ k, k ≠ b → ((w1.drew.setCell ⟨b, 1, none⟩ x).setCell ⟨b, 2, none⟩ y).heap[k]? = w1.heap[k]? := fun k hk => (Below.heap_setCell _ _ _ _ hk).trans (Below.heap_setCell _ _ _ _ hk)
  refine ⟨blk_set (blk_set (show w1.drew.heap[b]? = _ from h.hb) 1 _) 2 _, h.hs.keep (hk rs h.rs_ne), h.hv.keep (fun _ h => h) (fun k e => hk k ?_), h.xb, h.xs, h.xv, h.ne⟩
  rcases e with rfl | ⟨_, cells, hc⟩
  · exact h.rv_ne
  · rintro rfl
    have := h.hb; rw [hc] at this; injection this with this; injection this with _ this; revert this; decide

set_option maxHeartbeats 4000000 in
set_option maxRecDepth 100000 in
theorem made_any (W : World) (Y Z : Nat → Prop) (b : Nat) (L : List PatR) (h : TrieIs W Y Z b L) (hL : ∀ x, x ∈ L → PatGood x) (hn : L.length ≤ 300) :
    Calls Try.prog 35 #[.pointer (some ⟨b, 0, none⟩)] W fun e w' => e = .returned (.tuple #[]) ∧
      ∃ rs rv c0, TrieDone w' (fun k => Y k ∨ (W.heap.size ≤ k ∧ k < w'.heap.size)) Z b L rs rv c0 ∧ Keep Y W w' := by
  obtain ⟨c0, hR, hs⟩ := h.row
  have bl := h.lt b h.yb
  have HH := aside h
  have HR := aside hR
  have HL := aside hL
  have hA : Below W.heap.size W (W.alloc (.cells #[.pointer (some ⟨b, 0, none⟩)] 28)) := below_alloc (Below.refl _ _) _
  have HA := aside hA
  rcases hs with hs | ⟨rs, rv, hs⟩
  · have hb1 := (hA.block b bl).trans hs
    have hb2 : ((W.alloc (.cells #[.pointer (some ⟨b, 0, none⟩)] 28)).setCell ⟨b, 2, none⟩ (.int .i32 1)).heap[b]? = some (.cells #[c0, .int .u32 0, .int .i32 1, .int .u32 0, .int .i64 0, .map none, .map none] 80 (0, 0)) := blk_set hb1 2 _
    have hbt : ((W.alloc (.cells #[.pointer (some ⟨b, 0, none⟩)] 28)).setCell ⟨b, 2, none⟩ (.int .i32 1)).cell? ⟨W.heap.size, 0, none⟩ = some (.pointer (some ⟨b, 0, none⟩)) :=
      (World.cell?_setCell_other _ ⟨b, 2, none⟩ ⟨W.heap.size, 0, none⟩ _ (by first | (simp; omega) | simp)).trans (blk_cell (blk_new W _) 0)
    have hRb : kPat.R 40 ((W.alloc (.cells #[.pointer (some ⟨b, 0, none⟩)] 28)).setCell ⟨b, 2, none⟩ (.int .i32 1)) 0 Z c0 L :=
      Kd.R_far (p := ⟨b, 2, none⟩) (Kd.R_below hR hA) (fun k hk e => HH.out.dis k hk (by rw [e]; exact HH.out.yb)) _
    have HM := madef_any _ b W.heap.size c0 (.int .u32 0) (.int .i32 1) (.int .u32 0) L Z hb2 hbt (by omega) hRb (fun k hk e => HH.out.dis k hk (e ▸ HH.out.yb)) hL hn
    have HD := aside (do_first 53 #[.pointer (some ⟨W.heap.size, 0, none⟩)] (enters_of Try.func53 (by kernel_rfl) rfl) b 1 (W.alloc (.cells #[.pointer (some ⟨b, 0, none⟩)] 28))
      (fun w1 => ∃ rs rv, TrieM w1 (fun k => k = b ∨ (W.heap.size + 1 ≤ k ∧ k < w1.heap.size)) b rs rv c0 (.int .u32 0) (.int .i32 1) (.int .u32 0) (buildT L) ∧ Keep (fun k => k = b) ((W.alloc (.cells #[.pointer (some ⟨b, 0, none⟩)] 28)).setCell ⟨b, 2, none⟩ (.int .i32 1)) w1)
      (blk_cell hb1 1) (blk_cell hb1 2) (blk_frozen hb1 2) (by
        rw [World.size_setCell, World.size_alloc] at HM
        exact HM)
      (fun w1 ⟨rs, rv, hT, hK⟩ => ⟨blk_cell hT.hb 1, blk_cell hT.hb 2, blk_frozen hT.hb 1, blk_frozen hT.hb 2⟩))
    clear h hR hs hL hA hb1 hb2 hbt hRb HM
    go_enter Try.func35, Try.ntmps35
    go_wp2_with (go_at_call 52; refine HD.out.mono ?_; rintro e w' ⟨rfl, w1, ⟨rs, rv, hT, hK⟩, hw⟩; have HW := aside hw; clear hw)
    go_end0
    have hw : w' = (w1.drew.setCell ⟨b, 1, none⟩ (.int .u32 1)).setCell ⟨b, 2, none⟩ (.int .i32 0) := HW.out
    clear HW
    subst hw
    have hsz := hK.size
    rw [World.size_setCell, World.size_alloc] at hsz
    have hW : Keep (fun k => k = b) W ((w1.drew.setCell ⟨b, 1, none⟩ (.int .u32 1)).setCell ⟨b, 2, none⟩ (.int .i32 0)) :=
      ((((Keep.of_below HA.out).trans (Keep.set (X := fun k => k = b) (p := ⟨b, 2, none⟩) rfl _) (fun _ _ h => h)).trans hK (fun _ _ h => h)).trans (Keep.drew w1) (fun _ _ h => h)).trans
        ((Keep.set (X := fun k => k = b) (p := ⟨b, 1, none⟩) rfl _).trans (Keep.set (X := fun k => k = b) (p := ⟨b, 2, none⟩) rfl _) (fun _ _ h => h)) (fun _ _ h => h)
    have hfs : ((w1.drew.setCell ⟨b, 1, none⟩ (.int .u32 1)).setCell ⟨b, 2, none⟩ (.int .i32 0)).heap.size = w1.heap.size := by rw [World.size_setCell, World.size_setCell]; rfl
    refine ⟨rfl, rs, rv, c0, ⟨fun k hk => ?_, fun k hk => ?_, fun k hk hy => ?_, ?_, (hT.reset _ _).mono fun k hk => ?_⟩, hW.mono (fun k _ e => by rw [e]; exact HH.out.yb)⟩
    · rcases hk with hk | hk
      · have := HH.out.lt k hk; rw [hfs]; omega
      · exact hk.2
    · have := HH.out.zlt k hk; rw [hfs]; omega
    · rcases hy with hy | hy
      · exact HH.out.dis k hk hy
      · have := HH.out.zlt k hk; omega
    · exact Kd.R_step HR.out (fun k hk hlt => hW.block k hlt (fun e => HH.out.dis k hk (e ▸ HH.out.yb)))
    · rw [hfs]
      rcases hk with rfl | hk
      · exact .inl HH.out.yb
      · exact .inr ⟨by omega, hk.2⟩
  · have hb1 := (hA.block b bl).trans hs.hb
    have HD := aside (do_done ⟨b, 1, none⟩ 1 (by decide) (.func (.func 53) #[] #[.pointer (some ⟨W.heap.size, 0, none⟩)]) (W.alloc (.cells #[.pointer (some ⟨b, 0, none⟩)] 28)) (blk_cell hb1 1))
    have HS := aside hs
    clear h hR hs hL hA hb1
    go_enter Try.func35, Try.ntmps35
    go_wp2_with (go_at_call 52; refine HD.out.mono ?_; rintro e w' ⟨rfl, rfl⟩)
    go_end0
    refine ⟨rfl, rs, rv, c0, ⟨fun k hk => ?_, fun k hk => ?_, fun k hk hy => ?_, Kd.R_below HR.out HA.out, (HS.out.move fun k hk => HA.out.block k (HH.out.lt k hk)).mono fun k hk => .inl hk⟩, Keep.of_below HA.out⟩
    · rcases hk with hk | hk
      · exact Nat.lt_of_lt_of_le (HH.out.lt k hk) HA.out.size
      · exact hk.2
    · exact Nat.lt_of_lt_of_le (HH.out.zlt k hk) HA.out.size
    · rcases hy with hy | hy
      · exact HH.out.dis k hk hy
      · have := HH.out.zlt k hk; omega

set_option maxHeartbeats 4000000 in
theorem nodes_any (W : World) (Y Z : Nat → Prop) (b : Nat) (L : List PatR) (h : TrieIs W Y Z b L) (hL : ∀ x, x ∈ L → PatGood x) (hn : L.length ≤ 300) :
    Calls Try.prog 19 #[.pointer (some ⟨b, 0, none⟩)] W fun e w' => e = .returned (.int .i64 (buildT L).N) ∧
      TrieIs w' (fun k => Y k ∨ (W.heap.size ≤ k ∧ k < w'.heap.size)) Z b L ∧ Keep Y W w' := by
  have HM := aside (made_any W Y Z b L h hL hn)
  have HI := aside (fun w (hw : w.cell? ⟨b, 4, none⟩ = some (.int .i64 (buildT L).N)) => iload_any b 4 (buildT L).N w hw)
  clear h hL
  go_enter Try.func19, Try.ntmps19
  go_wp2_with (first
    | (go_at_call 35; refine HM.out.mono ?_; rintro e w' ⟨rfl, rs, rv, c0, hD, hK⟩)
    | (go_at_call 36; refine (HI.out _ (blk_cell hD.tm.hb 4)).mono ?_; rintro e w'' ⟨rfl, rfl⟩))
  go_ret
  exact ⟨rfl, hD.is, hK⟩
end Go.Proofs.Ytcignolfkocjeaa
