/- Is a number in the document's list? A closure handed to the library. -/
import Derived.Test.YthjfboecdhlnfaaQuRef
namespace Go.Proofs.Ythjfboecdhlnfaa.que
open Go Go.RowKit Go.ChangeShapes Go.WideShapes Go.ChangeAt Go.Proofs.Ythjfboecdhlnfaa.words
set_option linter.unusedVariables false
theorem eq_fn (y p x : Int) (b : Nat) (w : World) (hx : w.cell? ⟨b, 0, none⟩ = some (.int .i64 x)) (hb : b < w.heap.size) (v : Bool) (hv : decide (y = x) = v) :
    Calls Try.prog 21 #[.agg #[.int .i64 y, .int .i64 p], .pointer (some ⟨b, 0, none⟩)] w fun e w' => e = .returned (.bool v) ∧ Below w.heap.size w w' := by
  have e1 : (y == x) = v := by rw [← hv]; by_cases h : y = x <;> simp [h]
  clear hv
  go_enter Try.func21, Try.ntmps21
  go_wp2
  go_ret
  exact ⟨rfl, bone w (.cells #[.int .i64 y, .int .i64 p] 48)⟩
def FoundR (L : List It) (x : Int) (e : Ending) : Prop := ∃ r : Int, e = .returned (.int .i64 r) ∧ (0 ≤ r ↔ inQ L x = true)
theorem index_it (w : World) (B n c b : Nat) (A : Option Addr) (L : List It) (x : Int) (ho : w.ownsRow B 48 2 (.slice A n c) n (flatR L)) (hn : n ≤ 1000) (hx : w.cell? ⟨b, 0, none⟩ = some (.int .i64 x)) (hb : b < w.heap.size) :
    Calls Try.prog 24 #[.slice A n c, .func (.func 21) #[] #[.pointer (some ⟨b, 0, none⟩)]] w fun e w' => FoundR L x e ∧ Below w.heap.size w w' := by
  have hll := Lib.hid (ref_len ho)
  go_enter Try.func24, Try.ntmps24
  go_wp2_with fail
  go_loopw [8] (fun jv wr => ∃ j : Nat, j ≤ n ∧ jv = .int .i64 j ∧ (∀ a ∈ L.take j, a.2 ≠ x) ∧ Below w.heap.size w wr) (fun jv _ => n - (intOf jv).toNat)
  case atStart => exact ⟨0, by omega, rfl, by simp, Below.refl _ _⟩
  case round =>
    obtain ⟨j, hj, rfl, hall, hB⟩ := hrel
    have HA := Lib.hid hall
    clear hall
    by_cases hlt : j < n
    · obtain ⟨g, rfl, _, _⟩ := own_some ho (by omega)
      have hLj : L[j]? = some (L[j]'(by rw [hll.out]; exact hlt)) := List.getElem?_eq_getElem _
      obtain ⟨⟨p, y⟩, hpy⟩ : ∃ a, L[j]'(by rw [hll.out]; exact hlt) = a := ⟨_, rfl⟩
      rw [hpy] at hLj
      have or_ := own_under ho hB
      have d1 := (or_.cellAt (j * 2) (by omega)).trans (flatR_at hLj).1
      have d2 := (or_.cellAt (j * 2 + 1) (by omega)).trans (flatR_at hLj).2
      dsimp only at d1 d2
      have hxr : wr.cell? ⟨b, 0, none⟩ = some (.int .i64 x) := (hB.cell (p := ⟨b, 0, none⟩) hb).trans hx
      have HL := Lib.hid hLj
      have hbs := hB.size
      clear hLj hpy or_
      cases hc : decide (y = x) with
      | true =>
        have hf := eq_fn y p x b wr hxr (by omega) true hc
        have HC := Lib.hid (of_decide_eq_true hc)
        clear hc
        go_wp2_with (first | (go_at_call 21; (with_reducible refine hf.mono ?_); rintro e w2 ⟨rfl, hb2⟩) | fail)
        go_ret
        refine ⟨⟨(j : Int), rfl, ⟨fun _ => (inQ_iff _ _).2 ⟨(p, y), List.mem_of_getElem? HL.out, HC.out⟩, fun _ => by omega⟩⟩, bto hB hb2⟩
      | false =>
        have hf := eq_fn y p x b wr hxr (by omega) false hc
        have HC := Lib.hid (of_decide_eq_false hc)
        clear hc
        go_wp2_with (first | (go_at_call 21; (with_reducible refine hf.mono ?_); rintro e w2 ⟨rfl, hb2⟩) | fail)
        go_roundw
        case rel =>
          refine ⟨j + 1, by omega, by go_num, fun a ha => ?_, bto hB hb2⟩
          rw [List.take_add_one, HL.out] at ha
          simp only [List.mem_append, Option.toList_some, List.mem_singleton] at ha
          rcases ha with ha | rfl
          · exact HA.out a ha
          · exact HC.out
        case measure => simp [intOf]; omega
    · have HN : Hid (inQ L x = false) := by
        show _ = _
        cases hc : inQ L x with
        | false => rfl
        | true =>
          obtain ⟨a, ha, he⟩ := (inQ_iff _ _).1 hc
          exact absurd he (HA.out a (by rw [List.take_of_length_le (by rw [hll.out]; omega)]; exact ha))
      go_wp2_with fail
      go_ret
      exact ⟨⟨-1, rfl, ⟨fun h => by omega, fun h => by rw [HN.out] at h; cases h⟩⟩, hB⟩
theorem contains_it (w : World) (B n c b : Nat) (A : Option Addr) (L : List It) (x : Int) (ho : w.ownsRow B 48 2 (.slice A n c) n (flatR L)) (hn : n ≤ 1000) (hx : w.cell? ⟨b, 0, none⟩ = some (.int .i64 x)) (hb : b < w.heap.size) :
    Calls Try.prog 20 #[.slice A n c, .func (.func 21) #[] #[.pointer (some ⟨b, 0, none⟩)]] w fun e w' => e = .returned (.bool (inQ L x)) ∧ Below w.heap.size w w' := by
  have hi := index_it w B n c b A L x ho hn hx hb
  clear ho hx hb
  cases hc : inQ L x with
  | true =>
    go_enter Try.func20, Try.ntmps20
    go_wp2_with fail
    refine hi.mono ?_
    rintro e w2 ⟨⟨r, rfl, hr⟩, hb2⟩
    have h0 : 0 ≤ r := hr.2 hc
    clear hr hc hi
    go_wp2_with fail
    go_ret
    exact ⟨ret_bool (by first | rfl | simp [h0]), hb2⟩
  | false =>
    go_enter Try.func20, Try.ntmps20
    go_wp2_with fail
    refine hi.mono ?_
    rintro e w2 ⟨⟨r, rfl, hr⟩, hb2⟩
    have h0 : ¬ 0 ≤ r := fun h => by rw [hr.1 h] at hc; cases hc
    clear hr hc hi
    go_wp2_with fail
    go_ret
    exact ⟨ret_bool (by first | rfl | simp [h0]), hb2⟩
end Go.Proofs.Ythjfboecdhlnfaa.que
