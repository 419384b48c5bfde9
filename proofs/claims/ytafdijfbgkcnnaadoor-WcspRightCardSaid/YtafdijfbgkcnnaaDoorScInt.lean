/- A scan's Int, More, At; and Word, when a wrong byte was met. -/
import Derived.Test.YtafdijfbgkcnnaaDoorScRef
namespace Go.Proofs.YtafdijfbgkcnnaaDoor.scn
open Go Go.RowKit Go.ChangeShapes Go.WideShapes Go.ChangeAt Go.Proofs.YtafdijfbgkcnnaaDoor.words
set_option linter.unusedVariables false
variable {w : World} {g : Nat} {bs : List UInt8} {a : Nat} {bad : Int}
theorem word_bad (h : Scn w g bs a bad) (h0 : 0 ≤ bad) :
    Calls Tryd.prog 35 #[.pointer (some ⟨g, 0, none⟩)] w fun e w' => e = .returned (.tuple #[strV [], .int .i64 bad, .int .i64 11]) ∧ Below w.heap.size w w' := by
  obtain ⟨A, c, q0, q1, q2, hc, hat⟩ := h.heads
  have b0 : decide ((0 : Int) ≤ bad) = true := decide_eq_true h0
  clear h hat q0 q1
  go_enter Tryd.func35, Tryd.ntmps35
  go_wp2_with fail
  go_quiet (fail)
  go_wp2_with fail
  go_ret3
  exact ⟨rfl, below_drewN (Below.refl _ _) _⟩
end Go.Proofs.YtafdijfbgkcnnaaDoor.scn
