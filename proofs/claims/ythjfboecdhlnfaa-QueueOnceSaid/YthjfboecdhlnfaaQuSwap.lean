/- The exchange of two items of a queue's heap, on bare cells. -/
import Derived.Test.YthjfboecdhlnfaaPlc
import Derived.Test.YthjfboecdhlnfaaChecked
import Derived.ProofKit
import Derived.OpenShut
import Derived.RegionTactic
import Derived.ChangeAlike
import Derived.BigRegion
import Derived.WalkSmall
import Derived.Deep.QuietTactic
import Derived.BigQuiet
namespace Go.Proofs.Ythjfboecdhlnfaa.que
open Go Go.RowKit Go.ChangeShapes Go.WideShapes Go.ChangeAt Go.Proofs.Ythjfboecdhlnfaa.words
set_option linter.unusedVariables false

set_option maxHeartbeats 2000000 in
theorem swap_raw_ne (w W1 : World) (g r1 r2 n c1 N c2 i k x y : Nat) (a1 b1 v1 v2 : Int) (hne : ¬ i = k) (hxy : ¬ x = y)
    (ne1 : r1 ≠ g) (ne2 : r2 ≠ g) (ne3 : r1 ≠ r2) (hi : i < n) (hk : k < n) (hxN : x < N) (hyN : y < N)
    (cq0 : w.cell? ⟨g, 0, none⟩ = some (.slice (some ⟨r1, 0, none⟩) n c1))
    (d1 : w.cell? ⟨r1, i * 2, none⟩ = some (.int .i64 a1)) (d2 : w.cell? ⟨r1, i * 2 + 1, none⟩ = some (.int .i64 x))
    (d3 : w.cell? ⟨r1, k * 2, none⟩ = some (.int .i64 b1)) (d4 : w.cell? ⟨r1, k * 2 + 1, none⟩ = some (.int .i64 y))
    (e1 : w.frozen? ⟨r1, i * 2, none⟩ = false) (e2 : w.frozen? ⟨r1, i * 2 + 1, none⟩ = false) (e3 : w.frozen? ⟨r1, k * 2, none⟩ = false) (e4 : w.frozen? ⟨r1, k * 2 + 1, none⟩ = false)
    (hW : Hid (((((w.setCell ⟨r1, i * 2, none⟩ (.int .i64 b1)).setCell ⟨r1, i * 2 + 1, none⟩ (.int .i64 y)).setCell ⟨r1, k * 2, none⟩ (.int .i64 a1)).setCell ⟨r1, k * 2 + 1, none⟩ (.int .i64 x)).drew = W1))
    (HW : Hid (W1.cell? ⟨g, 0, none⟩ = some (.slice (some ⟨r1, 0, none⟩) n c1) ∧ W1.cell? ⟨g, 1, none⟩ = some (.slice (some ⟨r2, 0, none⟩) N c2) ∧ W1.cell? ⟨r1, i * 2 + 1, none⟩ = some (.int .i64 y) ∧ W1.cell? ⟨r1, k * 2 + 1, none⟩ = some (.int .i64 x) ∧
      W1.cell? ⟨r2, x, none⟩ = some (.int .i64 v1) ∧ W1.cell? ⟨r2, y, none⟩ = some (.int .i64 v2) ∧ W1.frozen? ⟨r2, x, none⟩ = false ∧ W1.frozen? ⟨r2, y, none⟩ = false)) :
    Calls Try.prog 23 #[.pointer (some ⟨g, 0, none⟩), .int .i64 i, .int .i64 k] w fun e w' => e = .returned (.tuple #[]) ∧ ((W1.setCell ⟨r2, y, none⟩ (.int .i64 i)).setCell ⟨r2, x, none⟩ (.int .i64 k)).drew = w' := by
  have i0 : (0 : Int) ≤ (i : Int) := Int.natCast_nonneg _
  have i1 : (i : Int) < (n : Int) := by omega
  have k0 : (0 : Int) ≤ (k : Int) := Int.natCast_nonneg _
  have k1 : (k : Int) < (n : Int) := by omega
  have x0 : (0 : Int) ≤ (x : Int) := Int.natCast_nonneg _
  have x1 : (x : Int) < (N : Int) := by omega
  have y0 : (0 : Int) ≤ (y : Int) := Int.natCast_nonneg _
  have y1 : (y : Int) < (N : Int) := by omega
  skip
  go_enter Try.func23, Try.ntmps23
  go_wp2_with fail
  go_region
  rw [hW.out]
  clear hW cq0 d1 d2 e1 e2 d3 d4 e3 e4 hne
  obtain ⟨cq0, cq1, d2, d4, f1, f2, f3, f4⟩ := HW.out
  clear HW
  skip
  go_wp2_with fail
  go_region
  go_wp2
  go_end0
  exact ⟨rfl, rfl⟩

set_option maxHeartbeats 2000000 in
theorem swap_raw_eq (w W1 : World) (g r1 r2 n c1 N c2 i x : Nat) (a1 v1 v2 : Int) 
    (ne1 : r1 ≠ g) (ne2 : r2 ≠ g) (ne3 : r1 ≠ r2) (hi : i < n) (hk : i < n) (hxN : x < N) (hyN : x < N)
    (cq0 : w.cell? ⟨g, 0, none⟩ = some (.slice (some ⟨r1, 0, none⟩) n c1))
    (d1 : w.cell? ⟨r1, i * 2, none⟩ = some (.int .i64 a1)) (d2 : w.cell? ⟨r1, i * 2 + 1, none⟩ = some (.int .i64 x))
    (d3 : w.cell? ⟨r1, i * 2, none⟩ = some (.int .i64 a1)) (d4 : w.cell? ⟨r1, i * 2 + 1, none⟩ = some (.int .i64 x))
    (e1 : w.frozen? ⟨r1, i * 2, none⟩ = false) (e2 : w.frozen? ⟨r1, i * 2 + 1, none⟩ = false) (e3 : w.frozen? ⟨r1, i * 2, none⟩ = false) (e4 : w.frozen? ⟨r1, i * 2 + 1, none⟩ = false)
    (hW : Hid (((((w.setCell ⟨r1, i * 2, none⟩ (.int .i64 a1)).setCell ⟨r1, i * 2 + 1, none⟩ (.int .i64 x)).setCell ⟨r1, i * 2, none⟩ (.int .i64 a1)).setCell ⟨r1, i * 2 + 1, none⟩ (.int .i64 x)).drew = W1))
    (HW : Hid (W1.cell? ⟨g, 0, none⟩ = some (.slice (some ⟨r1, 0, none⟩) n c1) ∧ W1.cell? ⟨g, 1, none⟩ = some (.slice (some ⟨r2, 0, none⟩) N c2) ∧ W1.cell? ⟨r1, i * 2 + 1, none⟩ = some (.int .i64 x) ∧ W1.cell? ⟨r1, i * 2 + 1, none⟩ = some (.int .i64 x) ∧
      W1.cell? ⟨r2, x, none⟩ = some (.int .i64 v1) ∧ W1.cell? ⟨r2, x, none⟩ = some (.int .i64 v2) ∧ W1.frozen? ⟨r2, x, none⟩ = false ∧ W1.frozen? ⟨r2, x, none⟩ = false)) :
    Calls Try.prog 23 #[.pointer (some ⟨g, 0, none⟩), .int .i64 i, .int .i64 i] w fun e w' => e = .returned (.tuple #[]) ∧ ((W1.setCell ⟨r2, x, none⟩ (.int .i64 i)).setCell ⟨r2, x, none⟩ (.int .i64 i)).drew = w' := by
  have i0 : (0 : Int) ≤ (i : Int) := Int.natCast_nonneg _
  have i1 : (i : Int) < (n : Int) := by omega
  have k0 : (0 : Int) ≤ (i : Int) := Int.natCast_nonneg _
  have k1 : (i : Int) < (n : Int) := by omega
  have x0 : (0 : Int) ≤ (x : Int) := Int.natCast_nonneg _
  have x1 : (x : Int) < (N : Int) := by omega
  have y0 : (0 : Int) ≤ (x : Int) := Int.natCast_nonneg _
  have y1 : (x : Int) < (N : Int) := by omega
  clear d3 d4 e3 e4 k0 k1 hk y0 y1 hyN
  go_enter Try.func23, Try.ntmps23
  go_wp2_with fail
  go_region
  rw [hW.out]
  clear hW cq0 d1 d2 e1 e2 
  obtain ⟨cq0, cq1, d2, d4, f1, f2, f3, f4⟩ := HW.out
  clear HW
  clear d4 f2 f4
  go_wp2_with fail
  go_region
  go_wp2
  go_end0
  exact ⟨rfl, rfl⟩
end Go.Proofs.Ythjfboecdhlnfaa.que
