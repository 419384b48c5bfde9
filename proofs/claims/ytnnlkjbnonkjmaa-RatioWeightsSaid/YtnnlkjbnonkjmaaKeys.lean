/- The order of floats as an order of integers: plain mathematics, no program. -/
import Derived.Test.YtnnlkjbnonkjmaaNums
import Ieee.Arith
namespace Go.Proofs.Ytnnlkjbnonkjmaa.flo
open Ieee
def topN : Nat := (2 ^ 250) ^ 12
theorem topN_pos : 0 < topN := by decide
def top : Int := (topN : Int)
theorem top_pos : 0 < top := by
  have := topN_pos
  unfold top; omega
theorem cmp_lt {a b : Int} (h : a < b) : compare a b = .lt := by simp [compare, compareOfLessAndEq, h]
theorem cmp_gt {a b : Int} (h : b < a) : compare a b = .gt := by
  simp only [compare, compareOfLessAndEq]; rw [if_neg (by omega), if_neg (by omega)]
theorem cmp_eq (a : Int) : compare a a = .eq := by simp [compare, compareOfLessAndEq]
def keyOf : Datum → Option Int
  | .nan _ _ => none
  | .infinity s => some (if s then -top else top)
  | .number s m p => some (signed s m (p - double.leastPlace).toNat)
def key (b : Nat) : Option Int := keyOf (double.read b)
theorem least_val : double.leastPlace = -1074 := by decide
theorem signed_le (s : Bool) (m e : Nat) : -(m <<< e : Nat) ≤ signed s m e ∧ signed s m e ≤ (m <<< e : Nat) := by
  unfold signed
  generalize m <<< e = q
  cases s
  · simp only [Bool.false_eq_true, if_false]; omega
  · simp only [if_true]; omega
theorem read_num {b : Nat} {s : Bool} {m : Nat} {p : Int} (h : double.read b = .number s m p) : m < 2 ^ 53 ∧ -1074 ≤ p ∧ p ≤ 1000 := by
  unfold Format.read at h
  simp only [] at h
  have hb : double.binade = 2 ^ 52 := by decide
  have hi : double.infRung = 2047 * 2 ^ 52 := by decide
  split at h
  · rename_i h1
    injection h with h2 h3 h4
    rw [least_val] at h4
    rw [hb] at h1
    refine ⟨by omega, by omega, by omega⟩
  · split at h
    · rename_i h1 h2
      injection h with h3 h4 h5
      rw [least_val] at h5
      rw [hi] at h2
      rw [hb] at h4 h5
      have h6 : b % double.signWeight / 2 ^ 52 < 2047 := Nat.div_lt_of_lt_mul (by omega)
      have h7 : b % double.signWeight % 2 ^ 52 < 2 ^ 52 := Nat.mod_lt _ (by decide)
      refine ⟨by omega, by omega, by omega⟩
    · split at h <;> cases h
theorem pow_bd (a b c : Nat) (h : a ≤ b * c) : 2 ^ a ≤ (2 ^ b) ^ c := by
  rw [← Nat.pow_mul]; exact Nat.pow_le_pow_right (by decide) h
theorem num_bd {m : Nat} {p : Int} (hm : m < 2 ^ 53) (hp : p ≤ 1000) (s : Bool) : -top < signed s m (p + 1074).toNat ∧ signed s m (p + 1074).toNat < top := by
  have h := signed_le s m (p + 1074).toNat
  have h1 : m <<< (p + 1074).toNat < topN := by
    rw [Nat.shiftLeft_eq]; unfold topN
    calc m * 2 ^ (p + 1074).toNat < 2 ^ 53 * 2 ^ (p + 1074).toNat := Nat.mul_lt_mul_of_pos_right hm (Nat.pow_pos (by decide))
      _ = 2 ^ (53 + (p + 1074).toNat) := by rw [Nat.pow_add]
      _ ≤ (2 ^ 250) ^ 12 := pow_bd _ _ _ (by omega)
  have h2 : ((m <<< (p + 1074).toNat : Nat) : Int) < top := Int.ofNat_lt.2 h1
  omega
theorem compare_mul (a b k : Int) (hk : 0 < k) : compare (a * k) (b * k) = compare a b := by
  rcases Int.lt_trichotomy a b with h | h | h
  · rw [cmp_lt h, cmp_lt (Int.mul_lt_mul_of_pos_right h hk)]
  · subst h; rw [cmp_eq, cmp_eq]
  · rw [cmp_gt h, cmp_gt (Int.mul_lt_mul_of_pos_right h hk)]
theorem signed_shift (s : Bool) (m e f : Nat) : signed s m (e + f) = signed s m e * (2 ^ f : Nat) := by
  unfold signed
  simp only [Nat.shiftLeft_eq, Nat.pow_add]
  cases s
  · simp only [Bool.false_eq_true, if_false, Int.natCast_mul]; rw [Int.mul_assoc]
  · simp only [if_true, Int.natCast_mul]; rw [Int.neg_mul, Int.mul_assoc]
theorem order_key (x y : Nat) : double.order x y = match key x, key y with | some a, some b => some (compare a b) | _, _ => none := by
  unfold Format.order key
  cases hx : double.read x with
  | nan => simp [Datum.order, keyOf]
  | infinity s =>
    cases hy : double.read y with
    | nan => simp [Datum.order, keyOf]
    | infinity t =>
      have hp := top_pos
      cases s <;> cases t <;> simp only [Datum.order, keyOf, Bool.false_eq_true, if_false, if_true]
      · rw [cmp_eq]; rfl
      · rw [cmp_gt (show -top < top by omega)]; rfl
      · rw [cmp_lt (show -top < top by omega)]; rfl
      · rw [cmp_eq]; rfl
    | number t n j =>
      obtain ⟨h1, h2, h3⟩ := read_num hy
      have h := num_bd h1 h3 t
      simp only [Datum.order, keyOf, least_val, show j - -1074 = j + 1074 by omega]
      cases s
      · simp only [Bool.false_eq_true, if_false]; rw [cmp_gt h.2]
      · simp only [if_true]; rw [cmp_lt h.1]
  | number s m i =>
    obtain ⟨g1, g2, g3⟩ := read_num hx
    cases hy : double.read y with
    | nan => simp [Datum.order, keyOf]
    | infinity t =>
      have h := num_bd g1 g3 s
      simp only [Datum.order, keyOf, least_val, show i - -1074 = i + 1074 by omega]
      cases t
      · simp only [Bool.false_eq_true, if_false]; rw [cmp_lt h.2]
      · simp only [if_true]; rw [cmp_gt h.1]
    | number t n j =>
      obtain ⟨h1, h2, h3⟩ := read_num hy
      simp only [Datum.order, keyOf, least_val]
      have e1 : (i - -1074).toNat = (i - min i j).toNat + (min i j + 1074).toNat := by omega
      have e2 : (j - -1074).toNat = (j - min i j).toNat + (min i j + 1074).toNat := by omega
      rw [e1, e2, signed_shift, signed_shift, compare_mul _ _ _ (Int.ofNat_lt.2 (Nat.pow_pos (by decide)))]
/-- who is aheadK: a number by its key; none behind all -/
def cmpK : Option Int → Option Int → Int
  | none, none => 0
  | none, some _ => 1
  | some _, none => -1
  | some a, some b => if a < b then -1 else if b < a then 1 else 0
def aheadK : Option Int → Option Int → Bool
  | none, _ => false
  | some _, none => true
  | some a, some b => decide (a < b)
theorem cmp_ahead (x y : Option Int) : cmpK x y = if aheadK y x then 1 else if aheadK x y then -1 else 0 := by
  cases x <;> cases y <;> simp [cmpK, aheadK]
  rename_i a b
  by_cases h1 : a < b
  · rw [if_pos h1, if_neg (by omega), if_pos h1]
  · rw [if_neg h1, if_neg h1]
theorem cmp_le (x y : Option Int) : cmpK x y ≤ 0 ↔ aheadK y x = false := by
  cases x <;> cases y <;> simp [cmpK, aheadK]
  rename_i a b
  split
  · omega
  · split <;> omega
theorem cmp_neg (x y : Option Int) : cmpK x y < 0 ↔ aheadK x y = true := by
  cases x <;> cases y <;> simp [cmpK, aheadK]
  rename_i a b
  split
  · omega
  · split <;> omega
theorem ahead_trans {x y z : Option Int} (h1 : aheadK y x = false) (h2 : aheadK z y = false) : aheadK z x = false := by
  cases x <;> cases y <;> cases z <;> simp_all [aheadK]
  omega
theorem ahead_tr {x y z : Option Int} (h1 : aheadK x y = true) (h2 : aheadK y z = true) : aheadK x z = true := by
  cases x <;> cases y <;> cases z <;> simp_all [aheadK]
  omega
theorem ahead_irr (x : Option Int) : aheadK x x = false := by cases x <;> simp [aheadK]
theorem ahead_asym {x y : Option Int} (h : aheadK x y = true) : aheadK y x = false := by
  cases x <;> cases y <;> simp_all [aheadK]
  omega
/-- the walk's tests -/
theorem lt_key (x y : Nat) : (double.order x y == some .lt) = match key x, key y with | some a, some b => decide (a < b) | _, _ => false := by
  rw [order_key]
  cases key x with
  | none => rfl
  | some a => cases key y with
    | none => rfl
    | some b =>
      rcases Int.lt_trichotomy a b with h | h | h
      · simp only [cmp_lt h, decide_eq_true h]; rfl
      · subst h; simp only [cmp_eq, Int.lt_irrefl, decide_false]; rfl
      · simp only [cmp_gt h, decide_eq_false (show ¬ a < b by omega)]; rfl
theorem gt_key (x y : Nat) : (double.order x y == some .gt) = match key x, key y with | some a, some b => decide (b < a) | _, _ => false := by
  rw [order_key]
  cases key x with
  | none => rfl
  | some a => cases key y with
    | none => rfl
    | some b =>
      rcases Int.lt_trichotomy a b with h | h | h
      · simp only [cmp_lt h, decide_eq_false (show ¬ b < a by omega)]; rfl
      · subst h; simp only [cmp_eq, Int.lt_irrefl, decide_false]; rfl
      · simp only [cmp_gt h, decide_eq_true h]; rfl
theorem nan_key (x : Nat) : (double.order x x != some .eq) = (key x).isNone := by
  rw [order_key]
  cases key x with
  | none => rfl
  | some a => simp only [cmp_eq]; rfl
end Go.Proofs.Ytnnlkjbnonkjmaa.flo
