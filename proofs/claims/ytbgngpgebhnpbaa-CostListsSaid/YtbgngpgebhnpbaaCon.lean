/- Contracts of the functions of package cost and of its reference, over this seat's program. -/
import Derived.Test.YtbgngpgebhnpbaaRows
import Derived.WalkKit
import Derived.ProofKit
import Derived.OpenShut
import Derived.Lib.Hide
namespace Go.Proofs.Ytbgngpgebhnpbaa.con
open Go.ChangeShapes Go.WideShapes Go.ChangeAt Go.RowKit

def InC (a k : Int) : Prop := 1 ≤ k ∧ k ≤ 2147483648 ∧ 0 ≤ a ∧ a ≤ k
instance (a k : Int) : Decidable (InC a k) := by unfold InC; infer_instance
def rightB (k : Int) : Bool := decide (1 ≤ k ∧ k ≤ 2147483648)
def inB (a k : Int) : Bool := decide (InC a k)
theorem ret_bool {a b : Bool} (h : a = b) : Ending.returned (.bool a) = .returned (.bool b) := by rw [h]

theorem ret_int {a b : Int} (h : a = b) : Ending.returned (.int .i64 a) = .returned (.int .i64 b) := by rw [h]
theorem right_yes (k : Int) (w : World) (h1 : 1 ≤ k) (h2 : k ≤ 2147483648) :
    Calls Try.prog 13 #[.int .i64 k] w fun e w' => e = .returned (.bool true) ∧ w = w' := by
  go_enter Try.func13, Try.ntmps13
  go_wp2
  go_ret
  exact ⟨rfl, rfl⟩
theorem right_no (k : Int) (w : World) (h : k < 1 ∨ 2147483648 < k) :
    Calls Try.prog 13 #[.int .i64 k] w fun e w' => e = .returned (.bool false) ∧ w = w' := by
  by_cases h1 : 1 ≤ k
  · have h2 : ¬ k ≤ 2147483648 := by omega
    go_enter Try.func13, Try.ntmps13
    go_wp2
    go_ret
    exact ⟨rfl, rfl⟩
  · go_enter Try.func13, Try.ntmps13
    go_wp2
    go_ret
    exact ⟨rfl, rfl⟩
theorem in_yes (a k : Int) (w : World) (h : InC a k) :
    Calls Try.prog 10 #[.int .i64 a, .int .i64 k] w fun e w' => e = .returned (.bool true) ∧ w = w' := by
  obtain ⟨h1, h2, h3, h4⟩ := h
  go_enter Try.func10, Try.ntmps10
  go_wp2
  go_ret
  exact ⟨rfl, rfl⟩
theorem in_no (a k : Int) (w : World) (h : ¬ InC a k) :
    Calls Try.prog 10 #[.int .i64 a, .int .i64 k] w fun e w' => e = .returned (.bool false) ∧ w = w' := by
  unfold InC at h
  by_cases hk : 1 ≤ k ∧ k ≤ 2147483648
  · obtain ⟨h1, h2⟩ := hk
    by_cases h3 : 0 ≤ a
    · have h4 : ¬ a ≤ k := by omega
      clear h
      go_enter Try.func10, Try.ntmps10
      go_wp2
      go_ret
      exact ⟨rfl, rfl⟩
    · clear h
      go_enter Try.func10, Try.ntmps10
      go_wp2
      go_ret
      exact ⟨rfl, rfl⟩
  · have h' : k < 1 ∨ 2147483648 < k := by omega
    clear h hk
    go_enter Try.func10, Try.ntmps10
    go_wp2_with (go_at_call 13; refine (right_no _ _ h').mono ?_; rintro e w' ⟨rfl, rfl⟩)
    go_ret
    exact ⟨rfl, rfl⟩
theorem right_any (F : Nat) (hF : F = 13 ∨ F = 14) (k : Int) (w : World) :
    Calls Try.prog F #[.int .i64 k] w fun e w' => e = .returned (.bool (rightB k)) ∧ w = w' := by
  by_cases h : 1 ≤ k ∧ k ≤ 2147483648
  · have hb : rightB k = true := by unfold rightB; exact decide_eq_true h
    rw [hb]; clear hb
    obtain ⟨h1, h2⟩ := h
    rcases hF with rfl | rfl
    · exact right_yes k w h1 h2
    · go_enter Try.func14, Try.ntmps14
      go_wp2
      go_ret
      exact ⟨rfl, rfl⟩
  · have hb : rightB k = false := by unfold rightB; exact decide_eq_false h
    rw [hb]; clear hb
    rcases hF with rfl | rfl
    · exact right_no k w (by omega)
    · by_cases h1 : 0 < k
      · have h2 : ¬ k ≤ 2147483648 := by omega
        clear h
        go_enter Try.func14, Try.ntmps14
        go_wp2
        go_ret
        exact ⟨ret_bool (by simp), rfl⟩
      · clear h
        go_enter Try.func14, Try.ntmps14
        go_wp2
        go_ret
        exact ⟨rfl, rfl⟩
theorem refin_any (a k : Int) (w : World) :
    Calls Try.prog 15 #[.int .i64 a, .int .i64 k] w fun e w' => e = .returned (.bool (inB a k)) ∧ w = w' := by
  by_cases h : InC a k
  · have hb : inB a k = true := by unfold inB; exact decide_eq_true h
    rw [hb]; clear hb
    obtain ⟨h1, h2, h3, h4⟩ := h
    have hr : rightB k = true := by unfold rightB; exact decide_eq_true ⟨h1, h2⟩
    go_enter Try.func15, Try.ntmps15
    go_wp2_with (go_at_call 14; (with_reducible refine (right_any 14 (Or.inr rfl) _ _).mono ?_); rintro e w' ⟨rfl, rfl⟩)
    go_ret
    exact ⟨rfl, rfl⟩
  · have hb : inB a k = false := by unfold inB; exact decide_eq_false h
    rw [hb]; clear hb
    unfold InC at h
    by_cases hk : 1 ≤ k ∧ k ≤ 2147483648
    · have hr : rightB k = true := by unfold rightB; exact decide_eq_true hk
      by_cases h3 : 0 ≤ a
      · have h4 : ¬ a ≤ k := by omega
        clear h hk
        go_enter Try.func15, Try.ntmps15
        go_wp2_with (go_at_call 14; (with_reducible refine (right_any 14 (Or.inr rfl) _ _).mono ?_); rintro e w' ⟨rfl, rfl⟩)
        go_ret
        exact ⟨ret_bool (by simpa using h4), rfl⟩
      · clear h hk
        go_enter Try.func15, Try.ntmps15
        go_wp2_with (go_at_call 14; (with_reducible refine (right_any 14 (Or.inr rfl) _ _).mono ?_); rintro e w' ⟨rfl, rfl⟩)
        go_ret
        exact ⟨rfl, rfl⟩
    · have hr : rightB k = false := by unfold rightB; exact decide_eq_false hk
      clear h hk
      go_enter Try.func15, Try.ntmps15
      go_wp2_with (go_at_call 14; (with_reducible refine (right_any 14 (Or.inr rfl) _ _).mono ?_); rintro e w' ⟨rfl, rfl⟩)
      go_ret
      exact ⟨rfl, rfl⟩
theorem in_any (F : Nat) (hF : F = 10 ∨ F = 15) (a k : Int) (w : World) :
    Calls Try.prog F #[.int .i64 a, .int .i64 k] w fun e w' => e = .returned (.bool (inB a k)) ∧ w = w' := by
  rcases hF with rfl | rfl
  · by_cases h : InC a k
    · have hb : inB a k = true := by unfold inB; exact decide_eq_true h
      rw [hb]; exact in_yes a k w h
    · have hb : inB a k = false := by unfold inB; exact decide_eq_false h
      rw [hb]; exact in_no a k w h
  · exact refin_any a k w
theorem ret_two {a b c d : Int} (h : a = b) (h2 : c = d) : Ending.returned (.tuple #[.int .i64 a, .int .i64 c]) = .returned (.tuple #[.int .i64 b, .int .i64 d]) := by rw [h, h2]
theorem add_ok (a b k : Int) (w : World) (ha : InC a k) (hb : InC b k) :
    Calls Try.prog 9 #[.int .i64 a, .int .i64 b, .int .i64 k] w fun e w' => e = .returned (.tuple #[.int .i64 (min (a + b) k), .int .i64 0]) ∧ w = w' := by
  have hA := ha
  obtain ⟨h1, h2, h3, h4⟩ := hA
  have hB := hb
  obtain ⟨_, _, h5, h6⟩ := hB
  go_enter Try.func9, Try.ntmps9
  go_wp2_with (go_at_call 10; (with_reducible refine (in_yes _ _ _ (by assumption)).mono ?_); rintro e w' ⟨rfl, rfl⟩)
  all_goals
    go_ret2
    exact ⟨ret_two (by omega) rfl, rfl⟩
theorem two_no (F : Nat) (a b k : Int) (w : World) (h : ¬ (InC a k ∧ InC b k)) (hF : F = 9 ∨ F = 11 ∨ F = 12) :
    Calls Try.prog F #[.int .i64 a, .int .i64 b, .int .i64 k] w fun e w' => e = .returned (.tuple #[.int .i64 0, .int .i64 3]) ∧ w = w' := by
  by_cases ha : InC a k
  · have hb : ¬ InC b k := fun x => h ⟨ha, x⟩
    clear h
    rcases hF with rfl | rfl | rfl
    · go_enter Try.func9, Try.ntmps9
      go_wp2_with (go_at_call 10; first | ((with_reducible refine (in_yes _ _ _ (by assumption)).mono ?_); rintro e w' ⟨rfl, rfl⟩) | ((with_reducible refine (in_no _ _ _ (by assumption)).mono ?_); rintro e w' ⟨rfl, rfl⟩))
      go_ret2
      exact ⟨rfl, rfl⟩
    · go_enter Try.func11, Try.ntmps11
      go_wp2_with (go_at_call 10; first | ((with_reducible refine (in_yes _ _ _ (by assumption)).mono ?_); rintro e w' ⟨rfl, rfl⟩) | ((with_reducible refine (in_no _ _ _ (by assumption)).mono ?_); rintro e w' ⟨rfl, rfl⟩))
      go_ret2
      exact ⟨rfl, rfl⟩
    · go_enter Try.func12, Try.ntmps12
      go_wp2_with (go_at_call 10; first | ((with_reducible refine (in_yes _ _ _ (by assumption)).mono ?_); rintro e w' ⟨rfl, rfl⟩) | ((with_reducible refine (in_no _ _ _ (by assumption)).mono ?_); rintro e w' ⟨rfl, rfl⟩))
      go_ret2
      exact ⟨rfl, rfl⟩
  · clear h
    rcases hF with rfl | rfl | rfl
    · go_enter Try.func9, Try.ntmps9
      go_wp2_with (go_at_call 10; ((with_reducible refine (in_no _ _ _ (by assumption)).mono ?_); rintro e w' ⟨rfl, rfl⟩))
      go_ret2
      exact ⟨rfl, rfl⟩
    · go_enter Try.func11, Try.ntmps11
      go_wp2_with (go_at_call 10; ((with_reducible refine (in_no _ _ _ (by assumption)).mono ?_); rintro e w' ⟨rfl, rfl⟩))
      go_ret2
      exact ⟨rfl, rfl⟩
    · go_enter Try.func12, Try.ntmps12
      go_wp2_with (go_at_call 10; ((with_reducible refine (in_no _ _ _ (by assumption)).mono ?_); rintro e w' ⟨rfl, rfl⟩))
      go_ret2
      exact ⟨rfl, rfl⟩
def subV (a b k : Int) : Int := if a = k then k else if b > a then 0 else a - b
def subE (a b k : Int) : Int := if a = k then 0 else if b > a then 6 else 0
theorem sub_ok (a b k : Int) (w : World) (ha : InC a k) (hb : InC b k) :
    Calls Try.prog 11 #[.int .i64 a, .int .i64 b, .int .i64 k] w fun e w' => e = .returned (.tuple #[.int .i64 (subV a b k), .int .i64 (subE a b k)]) ∧ w = w' := by
  have hA := ha
  obtain ⟨h1, h2, h3, h4⟩ := hA
  have hB := hb
  obtain ⟨_, _, h5, h6⟩ := hB
  by_cases c : a = k
  · have c' : (a == k) = true := by simpa using c
    have C := Lib.hid c; clear c
    go_enter Try.func11, Try.ntmps11
    go_wp2_with (go_at_call 10; (with_reducible refine (in_yes _ _ _ (by assumption)).mono ?_); rintro e w' ⟨rfl, rfl⟩)
    go_ret2
    exact ⟨ret_two (by rw [subV, if_pos C.out]) (by rw [subE, if_pos C.out]), rfl⟩
  · by_cases d : a < b
    · go_enter Try.func11, Try.ntmps11
      go_wp2_with (go_at_call 10; (with_reducible refine (in_yes _ _ _ (by assumption)).mono ?_); rintro e w' ⟨rfl, rfl⟩)
      go_ret2
      exact ⟨ret_two (by rw [subV, if_neg c, if_pos d]) (by rw [subE, if_neg c, if_pos d]), rfl⟩
    · go_enter Try.func11, Try.ntmps11
      go_wp2_with (go_at_call 10; (with_reducible refine (in_yes _ _ _ (by assumption)).mono ?_); rintro e w' ⟨rfl, rfl⟩)
      go_ret2
      exact ⟨ret_two (by rw [subV, if_neg c, if_neg (by omega)]) (by rw [subE, if_neg c, if_neg (by omega)]), rfl⟩
theorem gap_ok (a b k : Int) (w : World) (ha : InC a k) (hb : InC b k) :
    Calls Try.prog 12 #[.int .i64 a, .int .i64 b, .int .i64 k] w fun e w' => e = .returned (.tuple #[.int .i64 (max (b - a) 0), .int .i64 0]) ∧ w = w' := by
  have hA := ha
  obtain ⟨h1, h2, h3, h4⟩ := hA
  have hB := hb
  obtain ⟨_, _, h5, h6⟩ := hB
  go_enter Try.func12, Try.ntmps12
  go_wp2_with (go_at_call 10; (with_reducible refine (in_yes _ _ _ (by assumption)).mono ?_); rintro e w' ⟨rfl, rfl⟩)
  all_goals
    go_ret2
    exact ⟨ret_two (by omega) rfl, rfl⟩
theorem awake_any (w : World) :
    Calls Try.prog 8 #[] w fun e w' => e = .returned (.bool true) ∧ w = w' := by
  have i1 : InC 5 10 := by unfold InC; omega
  have i2 : InC 7 10 := by unfold InC; omega
  have i3 : InC 10 10 := by unfold InC; omega
  have a1 := fun w => add_ok 5 7 10 w i1 i2
  have a2 := fun w => sub_ok 10 7 10 w i3 i2
  have a3 := fun w => sub_ok 5 7 10 w i1 i2
  simp only [subV, subE, show min ((5:Int) + 7) 10 = 10 by omega, if_pos, show ((5:Int) = 10) = False by simp, show ((7 : Int) > 5) = True by simp, if_false] at a1 a2 a3
  go_enter Try.func8, Try.ntmps8
  go_wp2_with (first | (go_at_call 9; (with_reducible refine (a1 _).mono ?_); rintro e w' ⟨rfl, rfl⟩) | (go_at_call 11; (with_reducible refine (a2 _).mono ?_); rintro e w' ⟨rfl, rfl⟩) | (go_at_call 11; (with_reducible refine (a3 _).mono ?_); rintro e w' ⟨rfl, rfl⟩))
  go_ret
  exact ⟨rfl, rfl⟩
theorem refadd_ok (a b k : Int) (w : World) (ha : InC a k) (hb : InC b k) :
    Calls Try.prog 17 #[.int .i64 a, .int .i64 b, .int .i64 k] w fun e w' => e = .returned (.int .i64 (min (a + b) k)) ∧ w = w' := by
  obtain ⟨h1, h2, h3, h4⟩ := ha
  obtain ⟨_, _, h5, h6⟩ := hb
  go_enter Try.func17, Try.ntmps17
  go_wp2
  all_goals
    go_ret
    exact ⟨ret_int (by omega), rfl⟩
def okB (a b k : Int) : Bool := decide (a = k ∨ b ≤ a)
theorem refsub_ok (a b k : Int) (w : World) (ha : InC a k) (hb : InC b k) :
    Calls Try.prog 16 #[.int .i64 a, .int .i64 b, .int .i64 k] w fun e w' => e = .returned (.tuple #[.int .i64 (if a = k then k else a - b), .bool (okB a b k)]) ∧ w = w' := by
  obtain ⟨h1, h2, h3, h4⟩ := ha
  obtain ⟨_, _, h5, h6⟩ := hb
  by_cases c : a = k
  · have c' : (a == k) = true := by simpa using c
    have e1 : (if a = k then k else a - b) = k := if_pos c
    have e2 : okB a b k = true := by unfold okB; exact decide_eq_true (Or.inl c)
    rw [e1, e2]; clear e1 e2 c
    go_enter Try.func16, Try.ntmps16
    go_wp2
    go_ret2
    exact ⟨rfl, rfl⟩
  · have e1 : (if a = k then k else a - b) = a - b := if_neg c
    have e2 : okB a b k = decide (b ≤ a) := by unfold okB; simp [c]
    rw [e1, e2]; clear e1 e2
    go_enter Try.func16, Try.ntmps16
    go_wp2
    go_ret2
    exact ⟨rfl, rfl⟩
end Go.Proofs.Ytbgngpgebhnpbaa.con
