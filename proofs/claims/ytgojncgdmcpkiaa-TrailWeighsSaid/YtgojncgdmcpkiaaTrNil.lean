/- A nil trail. -/
import Derived.Test.YtgojncgdmcpkiaaTrLaw
namespace Go.Proofs.Ytgojncgdmcpkiaa.trl
open Go Go.RowKit Go.ChangeShapes Go.WideShapes Go.ChangeAt Go.Proofs.Ytgojncgdmcpkiaa.words
set_option linter.unusedVariables false
theorem grow_none (w : World) (i : Int) : Calls Try.prog 21 #[.pointer none, .int .i64 i] w fun e w' => e = .returned (.int .i64 0) ∧ w = w' := by
  go_enter Try.func21, Try.ntmps21
  go_wp2_with fail
  refine (tlen_nil w).mono ?_
  rintro e w' ⟨rfl, rfl⟩
  go_wp2_with fail
  go_ret
  exact ⟨rfl, rfl⟩
theorem forget_out (p : Option Addr) (n : Nat) (w : World) (i : Int) (hl : Calls Try.prog 17 #[.pointer p] w fun e w' => e = .returned (.int .i64 n) ∧ w = w') (hi : ¬ (0 ≤ i ∧ i < n)) :
    Calls Try.prog 23 #[.pointer p, .int .i64 i] w fun e w' => e = .returned (.int .i64 2) ∧ w = w' := by
  have hop := open_of p n w i hl false (by simp; omega)
  clear hi
  go_enter Try.func23, Try.ntmps23
  go_wp2_with fail
  refine hop.mono ?_
  rintro e w' ⟨rfl, rfl⟩
  go_wp2_with fail
  go_ret
  exact ⟨rfl, rfl⟩
end Go.Proofs.Ytgojncgdmcpkiaa.trl
