/- sync.Once: the function is called the first time, and no other. -/
import Derived.Test.YtcignolfkocjeaaSync
set_option linter.unusedVariables false
set_option linter.unusedSimpArgs false
namespace Go.Proofs.Ytcignolfkocjeaa
open Go.RowKit Go.Proofs.YtcignolfkocjeaaW.PrintWords

set_option maxRecDepth 100000 in
set_option maxHeartbeats 1600000 in
theorem slow_any (g : Nat) (lb : Array Value) (eg : ∀ args w, (callFunc g args).run Try.prog w = .ok (.enter g args) w) (b o : Nat) (w : World) (Post : World → Prop)
    (h0 : w.cell? ⟨b, o, none⟩ = some (.int .u32 0)) (h1 : w.cell? ⟨b, o + 1, none⟩ = some (.int .i32 0)) (f1 : w.frozen? ⟨b, o + 1, none⟩ = false)
    (hcall : Calls Try.prog g lb (w.setCell ⟨b, o + 1, none⟩ (.int .i32 1)) fun e w1 => e = .returned (.tuple #[]) ∧ Post w1)
    (hP : ∀ w1, Post w1 → w1.cell? ⟨b, o, none⟩ = some (.int .u32 0) ∧ w1.cell? ⟨b, o + 1, none⟩ = some (.int .i32 1) ∧ w1.frozen? ⟨b, o, none⟩ = false ∧ w1.frozen? ⟨b, o + 1, none⟩ = false) :
    Calls Try.prog 68 #[.pointer (some ⟨b, o, none⟩), .func (.func g) #[] lb] w fun e w' => e = .returned (.tuple #[]) ∧ ∃ w1, Post w1 ∧ w' = (w1.drew.setCell ⟨b, o, none⟩ (.int .u32 1)).setCell ⟨b, o + 1, none⟩ (.int .i32 0) := by
  have hl := run_call_load (P := Try.prog) Try.func73 (by kernel_rfl) (by kernel_rfl) (by kernel_rfl) .u32 (by kernel_rfl) (w := w.setCell ⟨b, o + 1, none⟩ (.int .i32 1)) (a := ⟨b, o, none⟩) (x := 0) ((World.cell?_setCell_other _ ⟨b, o + 1, none⟩ ⟨b, o, none⟩ _ (by simp)).trans h0)
  have hnot : ∀ (x : Bool) (w : World), (Op.unary .not (.bool x)).run Try.prog w = .ok (.bool (!x)) w := fun _ _ => rfl
  have HP := aside hP
  have HC := aside hcall
  clear hP hcall
  go_enter_defers Try.func68, Try.ntmps68
  go_wp2_with (first
    | (go_at_call 74; refine (lock_free ⟨b, o + 1, none⟩ _ (by go_simp) (by go_simp)).mono ?_; rintro e w' ⟨rfl, rfl⟩)
    | (go_at_call 67; go_in)
    | (go_at_fn g; refine HC.out.mono ?_; rintro e w1 ⟨rfl, hw1⟩))
  obtain ⟨p0, p1, z0, z1⟩ := HP.out w1 hw1
  clear HP HC hl h0 h1 f1
  refine leaves_cons (f := 76) (args := #[.pointer (some ⟨b, o, none⟩), .bool true]) (by simp) (by simp [go_sem]) ?_
  refine (bstore_deferred ⟨b, o, none⟩ (.int .u32 0) .returning _ p0 z0).mono ?_
  rintro e u' w'' ⟨rfl, rfl, rfl⟩
  refine leaves_cons (f := 75) (args := #[.pointer (some ⟨b, o + 1, none⟩)]) (by simp [settle]) (by simp [go_sem]) ?_
  refine (unlock_deferred ⟨b, o + 1, none⟩ _ _ ?_ (by simp [z1])).mono ?_
  · refine (World.cell?_setCell_other _ ⟨b, o, none⟩ ⟨b, o + 1, none⟩ _ (by simp)).trans ?_
    rw [World.cell?_drew]
    exact p1
  rintro e u' w'' ⟨rfl, rfl, rfl⟩
  simp [Leaves, settle, results, Try.results68]
  exact ⟨w1, hw1, rfl⟩

set_option maxRecDepth 100000 in
set_option maxHeartbeats 1600000 in
theorem do_first (g : Nat) (lb : Array Value) (eg : ∀ args w, (callFunc g args).run Try.prog w = .ok (.enter g args) w) (b o : Nat) (w : World) (Post : World → Prop)
    (h0 : w.cell? ⟨b, o, none⟩ = some (.int .u32 0)) (h1 : w.cell? ⟨b, o + 1, none⟩ = some (.int .i32 0)) (f1 : w.frozen? ⟨b, o + 1, none⟩ = false)
    (hcall : Calls Try.prog g lb (w.setCell ⟨b, o + 1, none⟩ (.int .i32 1)) fun e w1 => e = .returned (.tuple #[]) ∧ Post w1)
    (hP : ∀ w1, Post w1 → w1.cell? ⟨b, o, none⟩ = some (.int .u32 0) ∧ w1.cell? ⟨b, o + 1, none⟩ = some (.int .i32 1) ∧ w1.frozen? ⟨b, o, none⟩ = false ∧ w1.frozen? ⟨b, o + 1, none⟩ = false) :
    Calls Try.prog 52 #[.pointer (some ⟨b, o, none⟩), .func (.func g) #[] lb] w fun e w' => e = .returned (.tuple #[]) ∧ ∃ w1, Post w1 ∧ w' = (w1.drew.setCell ⟨b, o, none⟩ (.int .u32 1)).setCell ⟨b, o + 1, none⟩ (.int .i32 0) := by
  have hl := run_call_load (P := Try.prog) Try.func73 (by kernel_rfl) (by kernel_rfl) (by kernel_rfl) .u32 (by kernel_rfl) h0
  have hnot : ∀ (x : Bool) (w : World), (Op.unary .not (.bool x)).run Try.prog w = .ok (.bool (!x)) w := fun _ _ => rfl
  have HS := aside (slow_any g lb eg b o w Post h0 h1 f1 hcall hP)
  clear hP hcall
  go_enter Try.func52, Try.ntmps52
  go_wp2_with (first | (go_at_call 68; refine HS.out.mono ?_; rintro e w' ⟨rfl, hw'⟩) | (go_at_call 67; go_in))
  go_end0
  exact ⟨rfl, hw'⟩

/-- Done already: the function is not called. -/
theorem do_done (a : Addr) (d : Int) (hd : ¬ d = 0) (fv : Value) (w : World) (h0 : w.cell? a = some (.int .u32 d)) :
    Calls Try.prog 52 #[.pointer (some a), fv] w fun e w' => e = .returned (.tuple #[]) ∧ w' = w := by
  have hl := run_call_load (P := Try.prog) Try.func73 (by kernel_rfl) (by kernel_rfl) (by kernel_rfl) .u32 (by kernel_rfl) h0
  have hnot : ∀ (x : Bool) (w : World), (Op.unary .not (.bool x)).run Try.prog w = .ok (.bool (!x)) w := fun _ _ => rfl
  have hd' : (d != 0) = true := by simp [hd]
  go_enter Try.func52, Try.ntmps52
  go_wp2
  go_end0
  exact ⟨rfl, rfl⟩
end Go.Proofs.Ytcignolfkocjeaa
