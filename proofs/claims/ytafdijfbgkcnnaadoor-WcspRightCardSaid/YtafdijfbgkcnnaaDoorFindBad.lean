/- Contracts of slices.ContainsFunc over integers with the closures that ask whether a size is wrong. -/
import Derived.Test.YtafdijfbgkcnnaaDoorNums
import Derived.Test.YtafdijfbgkcnnaaDoorChecked
import Derived.ProofKit
import Derived.OpenShut
namespace Go.Proofs.YtafdijfbgkcnnaaDoor.words
open Go.ChangeShapes Go.WideShapes Go.ChangeAt Go.RowKit
set_option linter.unusedVariables false
def badS (a : Int) : Bool := decide (a < 1 ∨ 32 < a)
def Found (xs : List Int) (e : Ending) : Prop := ∃ r : Int, e = .returned (.int .i64 r) ∧ (0 ≤ r ↔ ∃ a ∈ xs, badS a = true)
def anyBad (xs : List Int) : Bool := xs.any badS
theorem bad_any (a : Int) (w : World) : Calls Tryd.prog 54 #[.int .i64 a] w fun e w' => e = .returned (.bool (badS a)) ∧ w = w' := by
  by_cases h1 : a < 1
  · have e : badS a = true := decide_eq_true (.inl h1)
    rw [e]; clear e
    go_enter Tryd.func54, Tryd.ntmps54
    go_wp2
    go_ret
    exact ⟨rfl, rfl⟩
  · have e : badS a = decide (32 < a) := by unfold badS; simp [h1]
    rw [e]; clear e
    go_enter Tryd.func54, Tryd.ntmps54
    go_wp2
    go_ret
    exact ⟨rfl, rfl⟩
theorem index_fn (A : Option Addr) (n cap : Nat) (xs : List Int) (w : World) (hn : n ≤ maxLen) (hr : Reads w w.heap.size 1 A n (nums xs)) :
    Calls Tryd.prog 77 #[.slice A n cap, .func (.func 54) #[] #[]] w fun e w' => Found xs e ∧ w = w' := by
  unfold maxLen at hn
  have hlen := nums_len hr
  go_enter Tryd.func77, Tryd.ntmps77
  go_wp2_with fail
  go_loop [8] (fun i => ∃ j : Nat, j ≤ n ∧ i = .int .i64 j ∧ ∀ a ∈ xs.take j, badS a = false) (fun i => n - (intOf i).toNat)
  case atStart => exact ⟨0, by omega, rfl, by simp⟩
  case round =>
    obtain ⟨j, hj, rfl, hall⟩ := hrel
    by_cases hlt : j < n
    · obtain ⟨ad, x, rfl, _, hx, hc⟩ := hr.num hlt
      cases hb : badS x with
      | false =>
        have HA := Lib.hid hall
        clear hall
        go_wp2_with (first
          | (go_at_call 54; (with_reducible refine (bad_any _ _).mono ?_); rintro e w' ⟨rfl, rfl⟩))
        go_round
        case rel =>
          refine ⟨j + 1, by omega, by go_num, ?_⟩
          rw [List.take_add_one, hx]
          intro a ha
          simp only [List.mem_append, Option.toList_some, List.mem_singleton] at ha
          rcases ha with ha | rfl
          · exact HA.out a ha
          · exact hb
        case measure => simp [intOf]; omega
      | true =>
        have HA := Lib.hid hall
        clear hall
        go_wp2_with (first
          | (go_at_call 54; (with_reducible refine (bad_any _ _).mono ?_); rintro e w' ⟨rfl, rfl⟩))
        go_ret
        exact ⟨⟨(j : Int), rfl, by
          constructor
          · intro _; exact ⟨x, List.mem_of_getElem? hx, hb⟩
          · intro _; omega⟩, rfl⟩
    · have HA := Lib.hid hall
      clear hall
      go_wp2
      go_ret
      refine ⟨⟨-1, rfl, ?_⟩, rfl⟩
      constructor
      · intro h; omega
      · rintro ⟨a, ha, hf⟩
        have := HA.out a (by rw [List.take_of_length_le (by omega)]; exact ha)
        rw [this] at hf; cases hf
theorem contains_fn (A : Option Addr) (n cap : Nat) (xs : List Int) (w : World) (hn : n ≤ maxLen) (hr : Reads w w.heap.size 1 A n (nums xs)) :
    Calls Tryd.prog 55 #[.slice A n cap, .func (.func 54) #[] #[]] w fun e w' => e = .returned (.bool (anyBad xs)) ∧ w = w' := by
  have hi := fun w hr => index_fn A n cap xs w hn hr
  cases hall : anyBad xs with
  | true =>
    have hA : ∃ a ∈ xs, badS a = true := by unfold anyBad at hall; rw [List.any_eq_true] at hall; exact hall
    have HA := Lib.hid hA; clear hA hall
    go_enter Tryd.func55, Tryd.ntmps55
    go_wp2_with (first
      | (go_at_call 77; (with_reducible refine (hi _ hr).mono ?_); rintro e w' ⟨⟨r, rfl, hf⟩, rfl⟩; have hr0 : 0 ≤ r := hf.2 HA.out; clear hf))
    go_ret
    exact ⟨ret_bool (by simp), rfl⟩
  | false =>
    have hA : ∀ a ∈ xs, badS a = false := by unfold anyBad at hall; rw [List.any_eq_false] at hall; simpa using hall
    have HA := Lib.hid hA; clear hA hall
    go_enter Tryd.func55, Tryd.ntmps55
    go_wp2_with (first
      | (go_at_call 77; (with_reducible refine (hi _ hr).mono ?_); rintro e w' ⟨⟨r, rfl, hf⟩, rfl⟩; have hr0 : ¬ 0 ≤ r := (fun h => by obtain ⟨a, ha, hb⟩ := hf.1 h; rw [HA.out a ha] at hb; cases hb); clear hf))
    go_ret
    exact ⟨ret_bool (by simp [hr0]), rfl⟩
theorem bad_any_r (a : Int) (w : World) : Calls Tryd.prog 56 #[.int .i64 a] w fun e w' => e = .returned (.bool (badS a)) ∧ w = w' := by
  by_cases h1 : a < 1
  · have e : badS a = true := decide_eq_true (.inl h1)
    rw [e]; clear e
    go_enter Tryd.func56, Tryd.ntmps56
    go_wp2
    go_ret
    exact ⟨rfl, rfl⟩
  · have e : badS a = decide (32 < a) := by unfold badS; simp [h1]
    rw [e]; clear e
    go_enter Tryd.func56, Tryd.ntmps56
    go_wp2
    go_ret
    exact ⟨rfl, rfl⟩
theorem index_fn_r (A : Option Addr) (n cap : Nat) (xs : List Int) (w : World) (hn : n ≤ maxLen) (hr : Reads w w.heap.size 1 A n (nums xs)) :
    Calls Tryd.prog 77 #[.slice A n cap, .func (.func 56) #[] #[]] w fun e w' => Found xs e ∧ w = w' := by
  unfold maxLen at hn
  have hlen := nums_len hr
  go_enter Tryd.func77, Tryd.ntmps77
  go_wp2_with fail
  go_loop [8] (fun i => ∃ j : Nat, j ≤ n ∧ i = .int .i64 j ∧ ∀ a ∈ xs.take j, badS a = false) (fun i => n - (intOf i).toNat)
  case atStart => exact ⟨0, by omega, rfl, by simp⟩
  case round =>
    obtain ⟨j, hj, rfl, hall⟩ := hrel
    by_cases hlt : j < n
    · obtain ⟨ad, x, rfl, _, hx, hc⟩ := hr.num hlt
      cases hb : badS x with
      | false =>
        have HA := Lib.hid hall
        clear hall
        go_wp2_with (first
          | (go_at_call 56; (with_reducible refine (bad_any_r _ _).mono ?_); rintro e w' ⟨rfl, rfl⟩))
        go_round
        case rel =>
          refine ⟨j + 1, by omega, by go_num, ?_⟩
          rw [List.take_add_one, hx]
          intro a ha
          simp only [List.mem_append, Option.toList_some, List.mem_singleton] at ha
          rcases ha with ha | rfl
          · exact HA.out a ha
          · exact hb
        case measure => simp [intOf]; omega
      | true =>
        have HA := Lib.hid hall
        clear hall
        go_wp2_with (first
          | (go_at_call 56; (with_reducible refine (bad_any_r _ _).mono ?_); rintro e w' ⟨rfl, rfl⟩))
        go_ret
        exact ⟨⟨(j : Int), rfl, by
          constructor
          · intro _; exact ⟨x, List.mem_of_getElem? hx, hb⟩
          · intro _; omega⟩, rfl⟩
    · have HA := Lib.hid hall
      clear hall
      go_wp2
      go_ret
      refine ⟨⟨-1, rfl, ?_⟩, rfl⟩
      constructor
      · intro h; omega
      · rintro ⟨a, ha, hf⟩
        have := HA.out a (by rw [List.take_of_length_le (by omega)]; exact ha)
        rw [this] at hf; cases hf
theorem contains_fn_r (A : Option Addr) (n cap : Nat) (xs : List Int) (w : World) (hn : n ≤ maxLen) (hr : Reads w w.heap.size 1 A n (nums xs)) :
    Calls Tryd.prog 55 #[.slice A n cap, .func (.func 56) #[] #[]] w fun e w' => e = .returned (.bool (anyBad xs)) ∧ w = w' := by
  have hi := fun w hr => index_fn_r A n cap xs w hn hr
  cases hall : anyBad xs with
  | true =>
    have hA : ∃ a ∈ xs, badS a = true := by unfold anyBad at hall; rw [List.any_eq_true] at hall; exact hall
    have HA := Lib.hid hA; clear hA hall
    go_enter Tryd.func55, Tryd.ntmps55
    go_wp2_with (first
      | (go_at_call 77; (with_reducible refine (hi _ hr).mono ?_); rintro e w' ⟨⟨r, rfl, hf⟩, rfl⟩; have hr0 : 0 ≤ r := hf.2 HA.out; clear hf))
    go_ret
    exact ⟨ret_bool (by simp), rfl⟩
  | false =>
    have hA : ∀ a ∈ xs, badS a = false := by unfold anyBad at hall; rw [List.any_eq_false] at hall; simpa using hall
    have HA := Lib.hid hA; clear hA hall
    go_enter Tryd.func55, Tryd.ntmps55
    go_wp2_with (first
      | (go_at_call 77; (with_reducible refine (hi _ hr).mono ?_); rintro e w' ⟨⟨r, rfl, hf⟩, rfl⟩; have hr0 : ¬ 0 ≤ r := (fun h => by obtain ⟨a, ha, hb⟩ := hf.1 h; rw [HA.out a ha] at hb; cases hb); clear hf))
    go_ret
    exact ⟨ret_bool (by simp [hr0]), rfl⟩
end Go.Proofs.YtafdijfbgkcnnaaDoor.words
