/- The lowest bit of a word, and the table that finds it. -/
import Derived.Test.YtcmglgkopgfheaaDoorBitCon
import Derived.Lib.LaidTab
namespace Go.Proofs.YtcmglgkopgfheaaDoor.bit
open Go.ChangeShapes Go.WideShapes Go.ChangeAt Go.RowKit Go.Proofs.YtcmglgkopgfheaaDoor.words
set_option linter.unusedVariables false
theorem low_of : ∀ (k x : Nat), 0 < x → x < 2 ^ k → ∃ j q, j < k ∧ x = 2 ^ j * (2 * q + 1)
  | 0, x, h0, h => by omega
  | k + 1, x, h0, h => by
    by_cases hx : x % 2 = 1
    · exact ⟨0, x / 2, by omega, by omega⟩
    · have h2 : x / 2 < 2 ^ k := by rw [Nat.pow_succ] at h; omega
      obtain ⟨j, q, h1, h3⟩ := low_of k (x / 2) (by omega) h2
      refine ⟨j + 1, q, by omega, ?_⟩
      rw [Nat.pow_succ, Nat.mul_comm (2 ^ j) 2, Nat.mul_assoc, ← h3]
      omega
theorem odd_and (n q : Nat) (hq : q < 2 ^ n) : (2 * q + 1) &&& (2 ^ (n + 1) - (2 * q + 1)) = 1 := by
  have e : 2 ^ (n + 1) - (2 * q + 1) = 2 ^ 1 * (2 ^ n - (q + 1)) + 1 := by rw [Nat.pow_succ]; omega
  have e2 : 2 * q + 1 = 2 ^ 1 * q + 1 := by omega
  have h0 : q &&& (2 ^ n - (q + 1)) = 0 := by
    apply Nat.eq_of_testBit_eq
    intro i
    rw [Nat.testBit_and, Nat.testBit_two_pow_sub_succ hq, Nat.zero_testBit]
    cases q.testBit i <;> simp
  rw [e, e2, and_split 1 _ _ _ _ (by decide) (by decide), h0]
  decide
theorem low_and (j q : Nat) (hj : j < 64) (hx : 2 ^ j * (2 * q + 1) < 2 ^ 64) : (2 ^ j * (2 * q + 1)) &&& (2 ^ 64 - 2 ^ j * (2 * q + 1)) = 2 ^ j := by
  have e : 2 ^ 64 = 2 ^ j * 2 ^ (63 - j + 1) := by rw [← Nat.pow_add]; congr 1; omega
  have hq : q < 2 ^ (63 - j) := by
    rw [e] at hx
    have := Nat.lt_of_mul_lt_mul_left hx
    rw [Nat.pow_succ] at this
    omega
  have hp : 0 < 2 ^ j := Nat.pow_pos (by decide)
  rw [e, ← Nat.mul_sub]
  have h := and_split j (2 * q + 1) 0 (2 ^ (63 - j + 1) - (2 * q + 1)) 0 hp hp
  simp only [Nat.add_zero] at h
  rw [odd_and _ _ hq] at h
  rw [h]; simp
def tab : List Int := [0, 1, 56, 2, 57, 49, 28, 3, 61, 58, 42, 50, 38, 29, 17, 4, 62, 47, 59, 36, 45, 43, 51, 22, 53, 39, 33, 30, 24, 18, 12, 5, 63, 55, 48, 27, 60, 41, 37, 16, 46, 35, 44, 21, 52, 32, 23, 11, 54, 26, 40, 15, 34, 20, 31, 10, 25, 14, 19, 9, 13, 8, 7, 6]
theorem tab_at : ∀ j : Fin 64, tab.getD (2 ^ j.val * 285870213051353865 % 2 ^ 64 / 2 ^ 58) 0 = (j.val : Int) := by decide +kernel
/-- the world holds the table of TrailingZeros64 -/
def Tab (w : World) : Prop := ∀ i : Nat, i < 64 → w.cell? ⟨0, i, none⟩ = some (.int .u8 (tab.getD i 0))
theorem Tab.below {B : Nat} {w w' : World} (h : Tab w) (hB : 0 < B) (hb : Below B w w') : Tab w' := fun i hi => (hb.cell (p := ⟨0, i, none⟩) hB).trans (h i hi)
theorem trail_any (z j q : Nat) (w : World) (ht : Tab w) (hz : z < 2 ^ 64) (hj : j < 64) (hzj : z = 2 ^ j * (2 * q + 1)) :
    Calls Tryd.prog 31 #[.int .u64 z] w fun e w' => e = .returned (.int .i64 j) ∧ w = w' := by
  have hp : 0 < 2 ^ j := Nat.pow_pos (by decide)
  have h0 : 0 < z := by rw [hzj]; exact Nat.mul_pos hp (by omega)
  have f1 : IntKind.u64.wrap (-(z : Int)) = ((2 ^ 64 - z : Nat) : Int) := by
    simp [IntKind.wrap, IntKind.signed, IntKind.bits]; omega
  have f2 : bits .and .u64 (z : Int) ((2 ^ 64 - z : Nat) : Int) = ((2 ^ j : Nat) : Int) := by
    rw [and_nat z (2 ^ 64 - z) hz (by omega)]
    have := low_and j q hj (by rw [← hzj]; exact hz)
    rw [← hzj] at this
    rw [this]
  have hi := tab_at ⟨j, hj⟩
  obtain ⟨i, hie⟩ : ∃ i, 2 ^ j * 285870213051353865 % 2 ^ 64 / 2 ^ 58 = i := ⟨_, rfl⟩
  have hi64 : i < 64 := by rw [← hie]; omega
  simp only [hie] at hi
  have hc := ht i hi64
  rw [hi] at hc
  obtain ⟨r, hr⟩ : ∃ r, 2 ^ 64 - z = r := ⟨_, rfl⟩
  obtain ⟨p, hpe⟩ : ∃ p, 2 ^ j = p := ⟨_, rfl⟩
  rw [hpe] at hie
  have f3 : IntKind.u64.wrap ((p : Int) * 285870213051353865) = ((p * 285870213051353865 % 2 ^ 64 : Nat) : Int) := by
    simp [IntKind.wrap, IntKind.signed, IntKind.bits]
  obtain ⟨m, hm⟩ : ∃ m, p * 285870213051353865 % 2 ^ 64 = m := ⟨_, rfl⟩
  rw [hm] at f3 hie
  have f4 : (m : Int) / 288230376151711744 = (i : Int) := by rw [← hie]; rfl
  rw [hr] at f1 f2
  rw [hpe] at f2
  have hz1 : (0 : Int) < (z : Int) := by omega
  have hi1 : (0 : Int) ≤ (i : Int) := by omega
  have hi2 : (i : Int) < 64 := by omega
  clear hi hie hm hr hpe hzj ht hp h0
  go_enter Tryd.func31, Tryd.ntmps31
  go_wp2
  go_ret
  exact ⟨rfl, rfl⟩
end Go.Proofs.YtcmglgkopgfheaaDoor.bit
