/- A contract of slices.Clone over integers. -/
import Derived.Test.YtafdijfbgkcnnaaDoorNums
import Derived.Test.YtafdijfbgkcnnaaDoorChecked
import Derived.ProofKit
import Derived.OpenShut
namespace Go.Proofs.YtafdijfbgkcnnaaDoor.words
open Go.ChangeShapes Go.WideShapes Go.ChangeAt Go.RowKit
set_option linter.unusedVariables false
theorem infoI : (Tryd.prog.info? 3).map (fun i => (i.zero, i.size, i.bytes)) = some (some (.int .i64 0), 1, 8) := by kernel_rfl
/-- a copy: nil of nil, else a row of its own -/
def Copied (w : World) (xs : List Int) (e : Ending) (w' : World) : Prop := ∃ A c, e = .returned (.slice A xs.length c) ∧ w'.ownsRow w.heap.size 3 1 (.slice A xs.length c) xs.length (nums xs) ∧ Below w.heap.size w w'
theorem clone_any (A : Option Addr) (n cap : Nat) (xs : List Int) (w : World) (hn : n ≤ 17592186044415) (hr : Reads w w.heap.size 1 A n (nums xs)) :
    Calls Tryd.prog 13 #[.slice A n cap] w fun e w' => Copied w xs e w' := by
  obtain ⟨i0, hi0, hz0, hz1, hz2⟩ := info_parts infoI
  have hlen := nums_len hr
  have hnil := fun w a n c n' c' => Lib.run_eql_slice_nil (P := Tryd.prog) w 23 3 a n c n' c' Tryd.underlying23
  cases A with
  | none =>
    have hn0 : n = 0 := by
      rcases Nat.eq_zero_or_pos n with h | h
      · exact h
      · obtain ⟨ad, h, _⟩ := hr.2 h; cases h
    subst hn0
    have hx : xs = [] := List.eq_nil_of_length_eq_zero hlen
    subst hx
    go_enter Tryd.func13, Tryd.ntmps13
    go_wp2
    go_ret
    exact ⟨_, _, rfl, World.ownsRow_nil _ _ _ _, Below.refl _ _⟩
  | some ad =>
    have hlit := World.ownsRow_lit (base := w.heap.size) (e := 3) (size := 1) w #[] 0 (Nat.le_refl _) (by unfold maxLen; omega) rfl
    have hr1 := hr.alloc (Nat.le_refl _) (.cells #[] 3)
    go_enter Tryd.func13, Tryd.ntmps13
    go_wp2_with (first
      | (at_builtin; refine wpList_append_any _ rfl (.tmp 5) (.tmp 6) _ rfl w.heap.size 3 i0 _ 1 8 Tryd.underlying23 hi0 hz0 hz1 hz2 rfl (by omega) _ 0 [] rfl hlit w.heap.size (some ad) n cap (nums xs) rfl hr1 nums_one (by simp only [maxLen]; omega) (by omega) (by simp) ?_; intro v1 w1 hown hg1 _))
    go_ret
    have hg2 : (w.alloc (.cells #[] 3)).grownBy w1 (some w.heap.size) := hg1
    obtain ⟨A1, c1, rfl⟩ := own_shape hown
    rw [Nat.zero_add, List.nil_append] at hown
    rw [Nat.zero_add]
    refine ⟨A1, c1, by rw [hlen]; rfl, by rw [hlen]; exact hown, ((Below.refl _ _).alloc (Nat.le_refl _) _).grown hg2 (by simp) (by simp)⟩

end Go.Proofs.YtafdijfbgkcnnaaDoor.words
