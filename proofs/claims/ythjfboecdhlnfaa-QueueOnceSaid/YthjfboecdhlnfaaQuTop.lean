/- The most urgent one of the document's list. -/
import Derived.Test.YthjfboecdhlnfaaQuFn
import Derived.Deep.QuietTactic
import Derived.BigQuiet
namespace Go.Proofs.Ythjfboecdhlnfaa.que
open Go Go.RowKit Go.ChangeShapes Go.WideShapes Go.ChangeAt Go.Proofs.Ythjfboecdhlnfaa.words
set_option linter.unusedVariables false
/-- the best of the first j -/
def Best (L : List It) (j : Nat) (b : Int) : Prop := (j = 0 ∧ b = -1) ∨ ∃ t : Nat, ∃ m, t < j ∧ b = t ∧ L[t]? = some m ∧ ∀ a ∈ L.take j, ¬ lt a m
theorem best_new {L : List It} {j : Nat} {a : It} (ha : L[j]? = some a) (h : ∀ c ∈ L.take j, ¬ lt c a) : Best L (j + 1) j := by
  refine .inr ⟨j, a, by omega, rfl, ha, fun c hc => ?_⟩
  rw [List.take_add_one, ha] at hc
  simp only [List.mem_append, Option.toList_some, List.mem_singleton] at hc
  rcases hc with hc | rfl
  · exact h c hc
  · exact lt_irrefl _
theorem best_old {L : List It} {j t : Nat} {a m : It} (ha : L[j]? = some a) (ht : t < j) (hm : L[t]? = some m) (h : ∀ c ∈ L.take j, ¬ lt c m) (hl : ¬ lt a m) : Best L (j + 1) t := by
  refine .inr ⟨t, m, by omega, rfl, hm, fun c hc => ?_⟩
  rw [List.take_add_one, ha] at hc
  simp only [List.mem_append, Option.toList_some, List.mem_singleton] at hc
  rcases hc with hc | rfl
  · exact h c hc
  · exact hl
def Topped (L : List It) (w : World) (e : Ending) (w' : World) : Prop := ∃ b : Int, e = .returned (.int .i64 b) ∧ Best L L.length b ∧ Below w.heap.size w w'
set_option maxHeartbeats 2000000 in
theorem ref_top (w : World) (B n c : Nat) (A : Option Addr) (L : List It) (ho : w.ownsRow B 48 2 (.slice A n c) n (flatR L)) (hn : n ≤ 1000) :
    Calls Try.prog 18 #[.slice A n c] w fun e w' => Topped L w e w' := by
  have hll := Lib.hid (ref_len ho)
  go_enter Try.func18, Try.ntmps18
  go_wp2_with fail
  go_loopw [3, 8] (fun bv jv wr => ∃ (j : Nat) (b : Int), j ≤ n ∧ jv = .int .i64 j ∧ bv = .int .i64 b ∧ Best L j b ∧ Below w.heap.size w wr) (fun _ jv _ => n - (intOf jv).toNat)
  case atStart => exact ⟨0, -1, by omega, rfl, rfl, .inl ⟨rfl, rfl⟩, Below.refl _ _⟩
  case round =>
    obtain ⟨j, b, hj, rfl, rfl, hb, hB⟩ := hrel
    by_cases hlt : j < n
    · obtain ⟨g, rfl, _, hgl⟩ := own_some ho (by omega)
      have hLj : L[j]? = some (L[j]'(by rw [hll.out]; exact hlt)) := List.getElem?_eq_getElem _
      obtain ⟨⟨p, y⟩, hpy⟩ : ∃ a, L[j]'(by rw [hll.out]; exact hlt) = a := ⟨_, rfl⟩
      rw [hpy] at hLj
      have hBa := bnew hB (.cells #[.int .i64 y, .int .i64 p] 48)
      have or0 := own_under ho hB
      have or_ := own_under ho hBa
      have c1 := (or0.cellAt (j * 2) (by omega)).trans (flatR_at hLj).1
      have c2 := (or0.cellAt (j * 2 + 1) (by omega)).trans (flatR_at hLj).2
      dsimp only at c1 c2
      have hgw : g < wr.heap.size := Nat.lt_of_lt_of_le hgl hB.size
      rcases hb with ⟨h0, rfl⟩ | ⟨t, ⟨q, z⟩, ht, rfl, hm, hall⟩
      · have hnew := Lib.hid (best_new hLj (by rw [h0]; simp))
        clear hLj hpy or0 or_ h0
        go_wp2_with fail
        go_quiet (fail)
        go_wp2_with fail
        go_roundw
        case rel => exact ⟨j + 1, j, by omega, by go_num, rfl, hnew.out, below_drewN hBa _⟩
        case measure => simp [intOf]; omega
      · have e1 := (or_.cellAt (t * 2) (by omega)).trans (flatR_at hm).1
        have e2 := (or_.cellAt (t * 2 + 1) (by omega)).trans (flatR_at hm).2
        dsimp only at e1 e2
        have t0 : (0 : Int) ≤ (t : Int) := by omega
        have t1 : (t : Int) < (n : Int) := by omega
        have tb : decide ((t : Int) < 0) = false := decide_eq_false (by omega)
        by_cases hpq : p < q
        · have hnew := Lib.hid (best_new hLj fun c hc hl => hall c hc (lt_trans hl (.inl hpq)))
          have tp : decide (p < q) = true := decide_eq_true hpq
          clear hLj hpy or0 or_ hm hall
          go_wp2_with fail
          go_quiet (fail)
          go_wp2_with fail
          go_roundw
          case rel => exact ⟨j + 1, j, by omega, by go_num, rfl, hnew.out, below_drewN hBa _⟩
          case measure => simp [intOf]; omega
        · have tp : decide (p < q) = false := decide_eq_false hpq
          by_cases hpe : p = q
          · subst hpe
            have te : (p == p) = true := by simp
            by_cases hyz : y < z
            · have hnew := Lib.hid (best_new hLj fun c hc hl => hall c hc (lt_trans hl (.inr ⟨rfl, hyz⟩)))
              have ty : decide (y < z) = true := decide_eq_true hyz
              clear hLj hpy or0 or_ hm hall
              go_wp2_with fail
              go_quiet (fail)
              go_wp2_with fail
              go_roundw
              case rel => exact ⟨j + 1, j, by omega, by go_num, rfl, hnew.out, below_drewN hBa _⟩
              case measure => simp [intOf]; omega
            · have hold := Lib.hid (best_old hLj ht hm hall (by unfold lt; dsimp only; omega))
              have ty : decide (y < z) = false := decide_eq_false hyz
              clear hLj hpy or0 or_ hm hall
              go_wp2_with fail
              go_quiet (fail)
              go_wp2_with fail
              go_roundw
              case rel => exact ⟨j + 1, t, by omega, by go_num, rfl, hold.out, below_drewN hBa _⟩
              case measure => simp [intOf]; omega
          · have te : (p == q) = false := by simp [hpe]
            have hold := Lib.hid (best_old hLj ht hm hall (by unfold lt; dsimp only; omega))
            clear hLj hpy or0 or_ hm hall hpe
            go_wp2_with fail
            go_quiet (fail)
            go_wp2_with fail
            go_roundw
            case rel => exact ⟨j + 1, t, by omega, by go_num, rfl, hold.out, below_drewN hBa _⟩
            case measure => simp [intOf]; omega
    · have hbe : Hid (Best L L.length b) := by
        show Best L L.length b
        rw [hll.out, show n = j by omega]; exact hb
      clear hb
      go_wp2_with fail
      go_ret
      exact ⟨b, rfl, hbe.out, hB⟩
end Go.Proofs.Ythjfboecdhlnfaa.que
