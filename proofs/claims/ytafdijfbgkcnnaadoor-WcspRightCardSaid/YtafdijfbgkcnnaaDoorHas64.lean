/- Contracts of slices.Index and slices.Contains over int64. -/
import Derived.Test.YtafdijfbgkcnnaaDoorNums
import Derived.Test.YtafdijfbgkcnnaaDoorChecked
import Derived.ProofKit
import Derived.OpenShut
import Derived.Deep.QuietTactic
import Derived.BigQuiet
namespace Go.Proofs.YtafdijfbgkcnnaaDoor.words
open Go Go.RowKit Go.ChangeShapes Go.WideShapes Go.ChangeAt
set_option linter.unusedVariables false
theorem take_snoc64 {L : List Int} {j : Nat} {x : Int} (h : L[j]? = some x) : L.take (j + 1) = L.take j ++ [x] := by rw [List.take_add_one, h]; rfl
theorem index64_any (A : Option Addr) (n c : Nat) (L : List Int) (v : Int) (w : World) (hn : n ≤ 9223372036854775807) (hr : Reads w w.heap.size 1 A n (nums L)) :
    Calls Tryd.prog 93 #[.slice A n c, .int .i64 v] w fun e w' => (∃ r : Int, e = .returned (.int .i64 r) ∧ decide (0 ≤ r) = decide (v ∈ L)) ∧ Below w.heap.size w w' := by
  have hl := nums_len hr
  go_enter Tryd.func93, Tryd.ntmps93
  go_wp2_with fail
  go_loopw [8] (fun jv wr => ∃ j : Nat, jv = .int .i64 j ∧ j ≤ n ∧ v ∉ L.take j ∧ Below w.heap.size w wr) (fun jv _ => n - (intOf jv).toNat)
  case atStart => exact ⟨0, rfl, Nat.zero_le _, by simp, Below.refl _ _⟩
  case round =>
    obtain ⟨j, rfl, hj, hno, hb⟩ := hrel
    by_cases hlt : j < n
    · obtain ⟨ad, x, rfl, _, hx, hc⟩ := (hr.below hb).num hlt
      by_cases hxv : v = x
      · subst hxv
        have hin : decide (v ∈ L) = true := decide_eq_true (List.mem_of_getElem? hx)
        have HI := Lib.hid hin
        have hbb : (v == v) = true := by simp
        clear hr hno hx hin hl
        go_wp2_with fail
        go_ret
        exact ⟨⟨j, rfl, by rw [HI.out]; exact decide_eq_true (Int.natCast_nonneg _)⟩, hb⟩
      · have hne : (v == x) = false := by simpa using hxv
        have H2 : Hid (v ∉ L.take (j + 1)) := by
          show v ∉ L.take (j + 1)
          rw [take_snoc64 hx]
          intro h
          rcases List.mem_append.1 h with h | h
          · exact hno h
          · simp at h; exact hxv h
        clear hno hx hxv
        go_wp2_with fail
        go_roundw
        case rel => exact ⟨j + 1, by go_num, by omega, H2.out, hb⟩
        case measure => simp [intOf]; omega
    · obtain rfl : n = j := by omega
      have H2 : Hid (decide (v ∈ L) = false) := by
        rw [List.take_of_length_le (by omega)] at hno
        exact decide_eq_false hno
      clear hr hno
      go_wp2_with fail
      go_ret
      exact ⟨⟨-1, rfl, by rw [H2.out]; rfl⟩, hb⟩
theorem has64_any (A : Option Addr) (n c : Nat) (L : List Int) (v : Int) (w : World) (hn : n ≤ 9223372036854775807) (hr : Reads w w.heap.size 1 A n (nums L)) :
    Calls Tryd.prog 85 #[.slice A n c, .int .i64 v] w fun e w' => e = .returned (.bool (decide (v ∈ L))) ∧ Below w.heap.size w w' := by
  have hi := index64_any A n c L v w hn hr
  clear hr
  go_enter Tryd.func85, Tryd.ntmps85
  go_wp2_with fail
  refine hi.mono ?_
  rintro e w1 ⟨⟨r, rfl, hd⟩, hb⟩
  have HD := Lib.hid hd
  clear hi hd
  go_wp2_with fail
  go_ret
  exact ⟨ret_bool HD.out, hb⟩
end Go.Proofs.YtafdijfbgkcnnaaDoor.words
