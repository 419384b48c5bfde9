/- Numbers that aren't too great, as int. -/
import Derived.Test.YtafdijfbgkcnnaaDoorWPlain
import Derived.Test.YtafdijfbgkcnnaaDoorChecked
import Derived.ProofKit
import Derived.OpenShut
namespace Go.Proofs.YtafdijfbgkcnnaaDoor.wcp
open Go Go.RowKit Go.ChangeShapes Go.WideShapes Go.ChangeAt Go.Proofs.YtafdijfbgkcnnaaDoor.words Go.Proofs.YtafdijfbgkcnnaaDoor.scn
set_option linter.unusedVariables false
theorem infoI : (Tryd.prog.info? 3).map (fun i => (i.zero, i.size, i.bytes)) = some (some (.int .i64 0), 1, 8) := by kernel_rfl
theorem set_part {xs : List Int} {j : Nat} {x : Int} (hx : xs[j]? = some x) : (nums (xs.take j ++ List.replicate (xs.length - j) 0)).set j (.int .i64 x) = nums (xs.take (j + 1) ++ List.replicate (xs.length - (j + 1)) 0) := by
  have hl := (List.getElem?_eq_some_iff.1 hx).1
  obtain ⟨k, hk⟩ : ∃ k, xs.length - j = k + 1 := ⟨xs.length - j - 1, by omega⟩
  have hk' : xs.length - (j + 1) = k := by omega
  have ht : (xs.take j).length = j := by rw [List.length_take]; omega
  rw [hk, hk', List.replicate_succ, List.take_add_one, hx]
  unfold nums
  rw [show (Value.int .i64 x) = (fun (x : Int) => Value.int .i64 x) x from rfl, ← List.map_set, List.set_append_right _ _ (by omega), ht, Nat.sub_self]
  simp
theorem nums_rep (n : Nat) : (madeCells #[.int .i64 0] n).toList = nums (List.replicate n 0) := by
  rw [toList_madeCells_one]; unfold nums; rw [List.map_replicate]
set_option maxRecDepth 100000 in
set_option maxHeartbeats 4000000 in
theorem ints_any (A : Option Addr) (n c : Nat) (xs : List Int) (w : World) (hn : n ≤ 1000000) (hr : Reads w w.heap.size 1 A n (nums xs)) :
    Calls Tryd.prog 37 #[.slice A n c] w fun e w' => e = .returned (.slice (some ⟨w.heap.size, 0, none⟩) n n) ∧ w'.ownsRow w.heap.size 3 1 (.slice (some ⟨w.heap.size, 0, none⟩) n n) n (nums xs) ∧ Below w.heap.size w w' := by
  obtain ⟨i0, hi0, hz0, hz1, hz2⟩ := info_parts infoI
  have hl := nums_len hr
  have hmk := fun W => run_make_rowN (P := Tryd.prog) 23 3 i0 _ Tryd.underlying23 hi0 hz0 .i64 .i64 n n (Nat.le_refl _) (by rw [hz2]; omega) (by omega) W
  go_enter Tryd.func37, Tryd.ntmps37
  go_wp2_with fail
  have hown : (w.alloc (.cells (madeCells #[.int .i64 0] n) 3)).ownsRow w.heap.size 3 1 (.slice (some ⟨w.heap.size, 0, none⟩) n n) n (nums (xs.take 0 ++ List.replicate (xs.length - 0) 0)) := by
    rw [List.take_zero, List.nil_append, Nat.sub_zero, hl, ← nums_rep]
    exact World.ownsRow_lit w _ n (Nat.le_refl _) (by unfold maxLen; omega) (by simp [madeCells])
  have hb0 := bone w (.cells (madeCells #[.int .i64 0] n) 3)
  clear hmk
  go_loopw [4, 5, 11] (fun _ _ iv wr => ∃ j : Nat, iv = .int .i64 j ∧ j ≤ n ∧ wr.ownsRow w.heap.size 3 1 (.slice (some ⟨w.heap.size, 0, none⟩) n n) n (nums (xs.take j ++ List.replicate (xs.length - j) 0)) ∧ Below w.heap.size w wr) (fun _ _ iv _ => n - (intOf iv).toNat)
  case atStart => exact ⟨0, rfl, Nat.zero_le _, hown, hb0⟩
  case round =>
    clear hown hb0
    obtain ⟨j, rfl, hj, ho, hb⟩ := hrel
    by_cases hlt : j < n
    · obtain ⟨ad, x, rfl, _, hx, hc⟩ := (hr.below hb).num hlt
      have hf := ho.frozenAt j
      obtain ⟨u, hu⟩ : ∃ u, (nums (xs.take j ++ List.replicate (xs.length - j) 0))[j]? = some u := ⟨_, List.getElem?_eq_getElem (by simp [nums]; omega)⟩
      have hcj := (ho.cellAt j (by omega)).trans hu
      clear hu
      have HS := Lib.hid (set_part hx)
      have HO := Lib.hid ho
      clear hx hl
      go_wp2_with fail
      go_roundw
      case rel => exact ⟨j + 1, by go_num, by omega, by rw [← HS.out]; exact (HO.out.stored j _).1, hb.setCell (p := ⟨w.heap.size, j, none⟩) (Nat.le_refl _) _⟩
      case measure => simp [intOf]; omega
    · obtain rfl : n = j := by omega
      rw [List.take_of_length_le (by omega), show xs.length - n = 0 by omega, List.replicate_zero, List.append_nil] at ho
      clear hl
      go_wp2_with fail
      go_ret
      exact ⟨rfl, ho, hb⟩
end Go.Proofs.YtafdijfbgkcnnaaDoor.wcp
