/- Are there more tuples than a table may have: plain. -/
import Derived.Test.YtafdijfbgkcnnaaDoorWPlain
import Derived.Test.YtafdijfbgkcnnaaDoorChecked
import Derived.ProofKit
import Derived.OpenShut
namespace Go.Proofs.YtafdijfbgkcnnaaDoor.wcp
open Go Go.RowKit Go.ChangeShapes Go.WideShapes Go.ChangeAt Go.Proofs.YtafdijfbgkcnnaaDoor.words Go.Proofs.YtafdijfbgkcnnaaDoor.scn
set_option linter.unusedVariables false
def capped (l : List Int) (n : Int) : Int := l.foldl (fun n k => min (n * min k 4097) 4097) n
theorem capped_top {l : List Int} (h : ∀ k ∈ l, 1 ≤ k) : capped l 4097 = 4097 := by
  induction l with
  | nil => rfl
  | cons k l ih =>
    have hk := h k (by simp)
    unfold capped at ih ⊢
    rw [List.foldl_cons, show min ((4097 : Int) * min k 4097) 4097 = 4097 by omega]
    exact ih fun x hx => h x (by simp [hx])
theorem great_is (l : List Int) : great l = decide (capped l 1 > 4096) := rfl
/-- so far the product is n: it never went beyond -/
theorem great_stop {l r : List Int} {k n : Int} (h : ∀ x ∈ r, 1 ≤ x) (hn : capped l 1 = n) (h1 : n * min k 4097 > 4096) : great (l ++ k :: r) = true := by
  rw [great_is]
  refine decide_eq_true ?_
  have : capped (l ++ k :: r) 1 = 4097 := by
    unfold capped at hn ⊢
    rw [List.foldl_append, hn, List.foldl_cons, show min (n * min k 4097) 4097 = 4097 by omega]
    exact capped_top h
  rw [this]; decide
theorem great_go {l : List Int} {k n : Int} (hn : capped l 1 = n) (h1 : n * min k 4097 ≤ 4096) : capped (l ++ [k]) 1 = n * min k 4097 := by
  unfold capped at hn ⊢
  rw [List.foldl_append, hn, List.foldl_cons, List.foldl_nil]
  omega
theorem great_any (A : Option Addr) (n c : Nat) (xs : List Int) (w : World) (hn : n ≤ 9223372036854775807) (hr : Reads w w.heap.size 1 A n (nums xs)) (h1 : ∀ k ∈ xs, 1 ≤ k) :
    Calls Tryd.prog 62 #[.slice A n c] w fun e w' => e = .returned (.bool (great xs)) ∧ w = w' := by
  have hl := nums_len hr
  go_enter Tryd.func62, Tryd.ntmps62
  go_wp2_with fail
  go_loopw [3, 5, 8] (fun nv _ jv wr => ∃ (j : Nat) (p : Int), jv = .int .i64 j ∧ j ≤ n ∧ nv = .int .i64 p ∧ capped (xs.take j) 1 = p ∧ 1 ≤ p ∧ p ≤ 4096 ∧ w = wr) (fun _ _ jv _ => n - (intOf jv).toNat)
  case atStart => exact ⟨0, 1, rfl, Nat.zero_le _, rfl, rfl, by omega, by omega, rfl⟩
  case round =>
    obtain ⟨j, p, rfl, hj, rfl, hp, hp1, hp2, rfl⟩ := hrel
    by_cases hlt : j < n
    · obtain ⟨ad, x, rfl, _, hx, hc⟩ := hr.num hlt
      have hx1 := h1 x (List.mem_of_getElem? hx)
      have hcut : xs = xs.take j ++ x :: xs.drop (j + 1) := by
        have hlj := (List.getElem?_eq_some_iff.1 hx).1
        have h2 := List.drop_eq_getElem_cons hlj
        rw [(List.getElem?_eq_some_iff.1 hx).2] at h2
        rw [← h2, List.take_append_drop]
      have htk : xs.take (j + 1) = xs.take j ++ [x] := by rw [List.take_add_one, hx]; rfl
      have hgs : p * min x 4097 > 4096 → great xs = true := fun h => by
        rw [hcut]; exact great_stop (fun y hy => h1 y (List.mem_of_mem_drop hy)) hp h
      have hgg : p * min x 4097 ≤ 4096 → capped (xs.take (j + 1)) 1 = p * min x 4097 := fun h => by rw [htk]; exact great_go hp h
      obtain ⟨m, hm⟩ : ∃ m, min x 4097 = m := ⟨_, rfl⟩
      rw [hm] at hgs hgg
      have hm1 : 1 ≤ m ∧ m ≤ 4097 := by omega
      have hb1 : 1 * 1 ≤ p * m := Int.mul_le_mul hp1 hm1.1 (by omega) (by omega)
      have hb2 : p * m ≤ 4096 * 4097 := Int.mul_le_mul hp2 hm1.2 (by omega) (by omega)
      have HS := Lib.hid hgs
      have HG := Lib.hid hgg
      clear hgs hgg hcut htk hx hp hl
      by_cases hx4 : 4097 < x
      · obtain rfl : m = 4097 := by omega
        clear hm
        by_cases hg : p * 4097 > 4096
        · have hd : decide (4096 < p * 4097) = true := decide_eq_true hg
          go_wp2_with fail
          go_ret
          exact ⟨ret_bool (HS.out hg).symm, by first | rfl | trivial⟩
        · have hd : decide (4096 < p * 4097) = false := decide_eq_false hg
          go_wp2_with fail
          go_roundw
          case rel => exact ⟨j + 1, p * 4097, by go_num, by omega, rfl, HG.out (by omega), by omega, by omega, by first | rfl | trivial⟩
          case measure => simp [intOf]; omega
      · obtain rfl : m = x := by omega
        clear hm
        by_cases hg : p * m > 4096
        · have hd : decide (4096 < p * m) = true := decide_eq_true hg
          go_wp2_with fail
          go_ret
          exact ⟨ret_bool (HS.out hg).symm, by first | rfl | trivial⟩
        · have hd : decide (4096 < p * m) = false := decide_eq_false hg
          go_wp2_with fail
          go_roundw
          case rel => exact ⟨j + 1, p * m, by go_num, by omega, rfl, HG.out (by omega), by omega, by omega, by first | rfl | trivial⟩
          case measure => simp [intOf]; omega
    · obtain rfl : n = j := by omega
      have HF : Hid (great xs = false) := by
        rw [List.take_of_length_le (by omega)] at hp
        rw [Hid, great_is, hp]; exact decide_eq_false (by omega)
      clear hp
      go_wp2_with fail
      go_ret
      exact ⟨ret_bool HF.out.symm, by first | rfl | trivial⟩
end Go.Proofs.YtafdijfbgkcnnaaDoor.wcp
