/- The document's digits, and strings put together. -/
import Derived.Test.YtafdijfbgkcnnaaDoorScDec
namespace Go.Proofs.YtafdijfbgkcnnaaDoor.wcp
open Go Go.RowKit Go.ChangeShapes Go.WideShapes Go.ChangeAt Go.Proofs.YtafdijfbgkcnnaaDoor.words Go.Proofs.YtafdijfbgkcnnaaDoor.scn
set_option linter.unusedVariables false
theorem dec7_any (n : Int) (w : World) (h0 : -9223372036854775808 ≤ n) (h1 : n ≤ 9223372036854775807) :
    Calls Tryd.prog 16 #[.int .i64 n] w fun e w' => e = .returned (strV (Lib.itoa n)) ∧ w = w' := by
  have h := dec_any n w h0 h1
  go_enter Tryd.func16, Tryd.ntmps16
  go_wp2_with (first | (go_at_call 49; (with_reducible refine h.mono ?_); rintro e w1 ⟨rfl, rfl⟩) | fail)
  go_ret
  exact ⟨rfl, rfl⟩
/-- two strings, one behind the other -/
theorem sadd (a b : List UInt8) (h : a.length + b.length ≤ 1000000) : ∀ w : World, (Op.stringOp .add ⟨a.toArray⟩ ⟨b.toArray⟩).run Tryd.prog w = .ok (strV (a ++ b)) w := fun w => by
  rw [run_string_add_sum w _ _ (by simp [ByteArray.size]; omega), ByteArray.mk_append_mk]
theorem slen (a : List UInt8) : (⟨a.toArray⟩ : ByteArray).size = a.length := by simp [ByteArray.size]
end Go.Proofs.YtafdijfbgkcnnaaDoor.wcp
