/- Bits of a word: how many, the lowest: plain arithmetic, no program. -/
import Derived.Test.YtcmglgkopgfheaaDoorNums
namespace Go.Proofs.YtcmglgkopgfheaaDoor.bit
/-- how many of the lowest k bits are 1 -/
def popc : Nat → Nat → Nat
  | 0, _ => 0
  | k + 1, x => x % 2 + popc k (x / 2)
/-- the same number m in n fields of b bits -/
def mask (b m : Nat) : Nat → Nat
  | 0 => 0
  | n + 1 => m + 2 ^ b * mask b m n
/-- n fields of b bits, each through f -/
def fields (b : Nat) (f : Nat → Nat) : Nat → Nat → Nat
  | 0, _ => 0
  | n + 1, x => f (x % 2 ^ b) + 2 ^ b * fields b f n (x / 2 ^ b)
theorem and_split (b y d z e : Nat) (hd : d < 2 ^ b) (he : e < 2 ^ b) : (2 ^ b * y + d) &&& (2 ^ b * z + e) = 2 ^ b * (y &&& z) + (d &&& e) := by
  have h : d &&& e < 2 ^ b := Nat.lt_of_le_of_lt Nat.and_le_left hd
  apply Nat.eq_of_testBit_eq
  intro j
  rw [Nat.testBit_and, Nat.testBit_two_pow_mul_add _ hd, Nat.testBit_two_pow_mul_add _ he, Nat.testBit_two_pow_mul_add _ h]
  split <;> rw [Nat.testBit_and]
theorem shr_and_split (b s y d z e : Nat) (hs : s ≤ b) (hd : d < 2 ^ b) (he : e < 2 ^ (b - s)) : ((2 ^ b * y + d) / 2 ^ s) &&& (2 ^ b * z + e) = 2 ^ b * ((y / 2 ^ s) &&& z) + ((d / 2 ^ s) &&& e) := by
  have he2 : e < 2 ^ b := Nat.lt_of_lt_of_le he (Nat.pow_le_pow_right (by decide) (by omega))
  have h : (d / 2 ^ s) &&& e < 2 ^ b := Nat.lt_of_le_of_lt Nat.and_le_right he2
  apply Nat.eq_of_testBit_eq
  intro j
  rw [Nat.testBit_and, Nat.testBit_two_pow_mul_add _ he2, Nat.testBit_two_pow_mul_add _ h, Nat.testBit_div_two_pow, Nat.testBit_two_pow_mul_add _ hd]
  by_cases hj : j < b
  · rw [if_pos hj, if_pos hj, Nat.testBit_and, Nat.testBit_div_two_pow]
    by_cases h2 : j + s < b
    · rw [if_pos h2]
    · have : e.testBit j = false := Nat.testBit_lt_two_pow (Nat.lt_of_lt_of_le he (Nat.pow_le_pow_right (by decide) (by omega)))
      rw [this]; simp
  · rw [if_neg hj, if_neg hj, if_neg (by omega), Nat.testBit_and, Nat.testBit_div_two_pow]
    congr 2; omega
theorem popc_le : ∀ (k x : Nat), popc k x ≤ k
  | 0, _ => Nat.le_refl _
  | k + 1, x => by have := popc_le k (x / 2); simp only [popc]; omega
theorem popc_add : ∀ (a b x : Nat), popc (a + b) x = popc a x + popc b (x / 2 ^ a)
  | 0, b, x => by simp [popc]
  | a + 1, b, x => by
    rw [show a + 1 + b = (a + b) + 1 by omega]
    simp only [popc]
    rw [popc_add a b (x / 2), Nat.div_div_eq_div_mul, show 2 * 2 ^ a = 2 ^ (a + 1) by rw [Nat.pow_succ, Nat.mul_comm]]
    omega
theorem popc_mod : ∀ (k x : Nat), popc k (x % 2 ^ k) = popc k x
  | 0, _ => rfl
  | k + 1, x => by
    simp only [popc]
    have h1 : x % 2 ^ (k + 1) % 2 = x % 2 := by rw [Nat.pow_succ, Nat.mul_comm]; exact Nat.mod_mul_right_mod _ _ _
    have h2 : x % 2 ^ (k + 1) / 2 = x / 2 % 2 ^ k := by rw [Nat.pow_succ, Nat.mul_comm, Nat.mod_mul_right_div_self]
    rw [h1, h2, popc_mod k (x / 2)]
theorem mask_succ (b m n : Nat) : mask b m (n + 1) = 2 ^ b * mask b m n + m := by simp only [mask]; omega
theorem popc2 (d : Nat) : popc 2 d = d % 2 + d / 2 % 2 := by simp [popc]
theorem popc4 (d : Nat) : popc 4 d = popc 2 (d % 2 ^ 2) + popc 2 (d / 2 ^ 2 % 2 ^ 2) := by
  rw [popc_mod, popc_mod, ← popc_add]
theorem popc8 (d : Nat) : popc 8 d = popc 4 (d % 2 ^ 4) + popc 4 (d / 2 ^ 4 % 2 ^ 4) := by
  rw [popc_mod, popc_mod, ← popc_add]
theorem step1 : ∀ (n x : Nat), ((x / 2 ^ 1) &&& mask 2 1 n) + (x &&& mask 2 1 n) = fields 2 (popc 2) n x
  | 0, x => by simp [mask, fields]
  | n + 1, x => by
    have hx : x = 2 ^ 2 * (x / 2 ^ 2) + x % 2 ^ 2 := (Nat.div_add_mod x (2 ^ 2)).symm
    have hd : x % 2 ^ 2 < 2 ^ 2 := Nat.mod_lt _ (by decide)
    simp only [fields]
    rw [← step1 n (x / 2 ^ 2), mask_succ]
    conv => lhs; rw [hx]
    rw [shr_and_split 2 1 _ _ _ _ (by decide) hd (by decide), and_split 2 _ _ _ _ hd (by decide)]
    have hf : (x % 2 ^ 2 / 2 ^ 1 &&& 1) + (x % 2 ^ 2 &&& 1) = popc 2 (x % 2 ^ 2) := by
      rw [popc2, Nat.and_one_is_mod, Nat.and_one_is_mod]; omega
    rw [← hf]
    generalize (x / 2 ^ 2 / 2 ^ 1 &&& mask 2 1 n) = a
    generalize (x / 2 ^ 2 &&& mask 2 1 n) = c
    omega
theorem fields_two (b : Nat) (f : Nat → Nat) (n z : Nat) : fields b f (2 * (n + 1)) z = 2 ^ (b + b) * fields b f (2 * n) (z / 2 ^ (b + b)) + (f (z % 2 ^ b) + 2 ^ b * f (z / 2 ^ b % 2 ^ b)) := by
  rw [show 2 * (n + 1) = (2 * n + 1) + 1 by omega]
  simp only [fields]
  rw [Nat.div_div_eq_div_mul, ← Nat.pow_add, Nat.mul_add, ← Nat.mul_assoc, ← Nat.pow_add]
  omega
theorem step2 : ∀ (n z : Nat), ((fields 2 (popc 2) (2 * n) z / 2 ^ 2) &&& mask 4 3 n) + (fields 2 (popc 2) (2 * n) z &&& mask 4 3 n) = fields 4 (popc 4) n z
  | 0, z => by simp [mask, fields]
  | n + 1, z => by
    rw [fields_two]
    simp only [fields]
    rw [← step2 n (z / 2 ^ 4), mask_succ]
    have h1 := popc_le 2 (z % 2 ^ 2)
    have h2 := popc_le 2 (z / 2 ^ 2 % 2 ^ 2)
    have h4 : popc 4 (z % 2 ^ 4) = popc 2 (z % 2 ^ 2) + popc 2 (z / 2 ^ 2 % 2 ^ 2) := by rw [popc_mod, popc4]
    rw [h4]
    generalize popc 2 (z % 2 ^ 2) = p at *
    generalize popc 2 (z / 2 ^ 2 % 2 ^ 2) = q at *
    generalize fields 2 (popc 2) (2 * n) (z / 2 ^ (2 + 2)) = y at *
    have hd : p + 2 ^ 2 * q < 2 ^ (2 + 2) := by omega
    rw [shr_and_split (2 + 2) 2 _ _ _ _ (by decide) hd (by decide), and_split (2 + 2) _ _ _ _ hd (by decide)]
    have hf : ((p + 2 ^ 2 * q) / 2 ^ 2 &&& 3) + ((p + 2 ^ 2 * q) &&& 3) = p + q := by
      have e1 : ∀ x, x &&& 3 = x % 4 := fun x => Nat.and_two_pow_sub_one_eq_mod x 2
      rw [e1, e1]; omega
    rw [← hf]
    generalize (y / 2 ^ 2 &&& mask 4 3 n) = a
    generalize (y &&& mask 4 3 n) = c
    omega
theorem fields4_mod (n z : Nat) : fields 4 (popc 4) n z % 16 ≤ 4 := by
  cases n with
  | zero => simp [fields]
  | succ n =>
    simp only [fields]
    have := popc_le 4 (z % 2 ^ 4)
    omega
theorem step3 : ∀ (n z : Nat), ((fields 4 (popc 4) (2 * n) z / 2 ^ 4 + fields 4 (popc 4) (2 * n) z) &&& mask 8 15 n) = fields 8 (popc 8) n z
  | 0, z => by simp [mask, fields]
  | n + 1, z => by
    rw [fields_two]
    simp only [fields]
    rw [← step3 n (z / 2 ^ 8), mask_succ]
    have h1 := popc_le 4 (z % 2 ^ 4)
    have h2 := popc_le 4 (z / 2 ^ 4 % 2 ^ 4)
    have h4 : popc 8 (z % 2 ^ 8) = popc 4 (z % 2 ^ 4) + popc 4 (z / 2 ^ 4 % 2 ^ 4) := by rw [popc_mod, popc8]
    have h5 := fields4_mod (2 * n) (z / 2 ^ (4 + 4))
    rw [h4]
    generalize popc 4 (z % 2 ^ 4) = p at *
    generalize popc 4 (z / 2 ^ 4 % 2 ^ 4) = q at *
    generalize fields 4 (popc 4) (2 * n) (z / 2 ^ (4 + 4)) = y at *
    have e : (2 ^ (4 + 4) * y + (p + 2 ^ 4 * q)) / 2 ^ 4 + (2 ^ (4 + 4) * y + (p + 2 ^ 4 * q)) = 2 ^ 8 * (y / 2 ^ 4 + y) + (16 * (y % 16) + q + p + 16 * q) := by omega
    have hd : 16 * (y % 16) + q + p + 16 * q < 2 ^ 8 := by omega
    rw [e, and_split 8 _ _ _ _ hd (by decide)]
    have e1 : ∀ x, x &&& 15 = x % 16 := fun x => Nat.and_two_pow_sub_one_eq_mod x 4
    rw [e1]
    omega
theorem fields_lt (b : Nat) (f : Nat → Nat) (hf : ∀ x, f x < 2 ^ b) : ∀ (n x : Nat), fields b f n x < 2 ^ (b * n)
  | 0, x => by simp [fields]
  | n + 1, x => by
    simp only [fields]
    have h1 := hf (x % 2 ^ b)
    have h2 := fields_lt b f hf n (x / 2 ^ b)
    rw [Nat.mul_add, Nat.mul_one, Nat.pow_add, Nat.mul_comm (2 ^ (b * n))]
    have h3 : 2 ^ b * (fields b f n (x / 2 ^ b) + 1) ≤ 2 ^ b * 2 ^ (b * n) := Nat.mul_le_mul_left _ h2
    rw [Nat.mul_add, Nat.mul_one] at h3
    omega
theorem mask1 : mask 2 1 32 = 6148914691236517205 := by decide
theorem mask2 : mask 4 3 16 = 3689348814741910323 := by decide
theorem mask3 : mask 8 15 8 = 1085102592571150095 := by decide
theorem swar1 (z : Nat) : ((z / 2 ^ 1) &&& 6148914691236517205) + (z &&& 6148914691236517205) = fields 2 (popc 2) 32 z := by rw [← mask1]; exact step1 32 z
theorem swar2 (z : Nat) : ((fields 2 (popc 2) 32 z / 2 ^ 2) &&& 3689348814741910323) + (fields 2 (popc 2) 32 z &&& 3689348814741910323) = fields 4 (popc 4) 16 z := by rw [← mask2]; exact step2 16 z
theorem swar3 (z : Nat) : ((fields 4 (popc 4) 16 z / 2 ^ 4 + fields 4 (popc 4) 16 z) &&& 1085102592571150095) = fields 8 (popc 8) 8 z := by rw [← mask3]; exact step3 8 z
theorem lt1 (z : Nat) : fields 2 (popc 2) 32 z < 2 ^ 64 := fields_lt 2 _ (fun x => by have := popc_le 2 x; omega) 32 z
theorem lt2 (z : Nat) : fields 4 (popc 4) 16 z < 2 ^ 63 := by
  have h := fields_lt 4 (popc 4) (fun x => by have := popc_le 4 x; omega) 15 z
  have h2 : ∀ n x, fields 4 (popc 4) (n + 1) x ≤ fields 4 (popc 4) n x + 2 ^ (4 * n) * 4 := by
    intro n
    induction n with
    | zero => intro x; simp only [fields]; have := popc_le 4 (x % 2 ^ 4); omega
    | succ n ih =>
      intro x
      have := ih (x / 2 ^ 4)
      have e : 2 ^ (4 * (n + 1)) = 2 ^ 4 * 2 ^ (4 * n) := by rw [← Nat.pow_add]; congr 1; omega
      rw [e]
      show popc 4 (x % 2 ^ 4) + 2 ^ 4 * fields 4 (popc 4) (n + 1) (x / 2 ^ 4) ≤ popc 4 (x % 2 ^ 4) + 2 ^ 4 * fields 4 (popc 4) n (x / 2 ^ 4) + 2 ^ 4 * 2 ^ (4 * n) * 4
      generalize 2 ^ (4 * n) = u at *
      omega
  have h3 : fields 4 (popc 4) 16 z ≤ fields 4 (popc 4) 15 z + 2 ^ (4 * 15) * 4 := h2 15 z
  omega
theorem pop_sum (z : Nat) : ∃ b0 b1 b2 b3 b4 b5 b6 b7 : Nat, b0 ≤ 8 ∧ b1 ≤ 8 ∧ b2 ≤ 8 ∧ b3 ≤ 8 ∧ b4 ≤ 8 ∧ b5 ≤ 8 ∧ b6 ≤ 8 ∧ b7 ≤ 8 ∧
    fields 8 (popc 8) 8 z = b0 + 256 * (b1 + 256 * (b2 + 256 * (b3 + 256 * (b4 + 256 * (b5 + 256 * (b6 + 256 * b7)))))) ∧ popc 64 z = b0 + (b1 + (b2 + (b3 + (b4 + (b5 + (b6 + b7)))))) := by
  refine ⟨_, _, _, _, _, _, _, _, popc_le 8 (z % 2 ^ 8), popc_le 8 (z / 2 ^ 8 % 2 ^ 8), popc_le 8 (z / 2 ^ 8 / 2 ^ 8 % 2 ^ 8), popc_le 8 (z / 2 ^ 8 / 2 ^ 8 / 2 ^ 8 % 2 ^ 8), popc_le 8 (z / 2 ^ 8 / 2 ^ 8 / 2 ^ 8 / 2 ^ 8 % 2 ^ 8), popc_le 8 (z / 2 ^ 8 / 2 ^ 8 / 2 ^ 8 / 2 ^ 8 / 2 ^ 8 % 2 ^ 8), popc_le 8 (z / 2 ^ 8 / 2 ^ 8 / 2 ^ 8 / 2 ^ 8 / 2 ^ 8 / 2 ^ 8 % 2 ^ 8), popc_le 8 (z / 2 ^ 8 / 2 ^ 8 / 2 ^ 8 / 2 ^ 8 / 2 ^ 8 / 2 ^ 8 / 2 ^ 8 % 2 ^ 8), rfl, ?_⟩
  rw [show (64 : Nat) = 8 + (8 + (8 + (8 + (8 + (8 + (8 + 8)))))) by rfl]
  simp only [popc_add, popc_mod]
section
variable {b0 b1 b2 b3 b4 b5 b6 b7 x y v : Nat} (h0 : b0 ≤ 8) (h1 : b1 ≤ 8) (h2 : b2 ≤ 8) (h3 : b3 ≤ 8) (h4 : b4 ≤ 8) (h5 : b5 ≤ 8) (h6 : b6 ≤ 8) (h7 : b7 ≤ 8)
include h0 h1 h2 h3 h4 h5 h6 h7
theorem end1 (hx : x = b0 + 256 * (b1 + 256 * (b2 + 256 * (b3 + 256 * (b4 + 256 * (b5 + 256 * (b6 + 256 * b7))))))) :
    x < 2 ^ 60 ∧ x + x / 2 ^ 8 = (b0 + b1) + 256 * ((b1 + b2) + 256 * ((b2 + b3) + 256 * ((b3 + b4) + 256 * ((b4 + b5) + 256 * ((b5 + b6) + 256 * ((b6 + b7) + 256 * b7)))))) := by
  have a1 : x / 2 ^ 8 = b1 + 256 * (b2 + 256 * (b3 + 256 * (b4 + 256 * (b5 + 256 * (b6 + 256 * b7))))) := by omega
  rw [a1]
  constructor <;> omega
theorem end2 (hy : y = (b0 + b1) + 256 * ((b1 + b2) + 256 * ((b2 + b3) + 256 * ((b3 + b4) + 256 * ((b4 + b5) + 256 * ((b5 + b6) + 256 * ((b6 + b7) + 256 * b7))))))) :
    y < 2 ^ 61 ∧ y + y / 2 ^ 16 = (b0 + b1 + b2 + b3) + 256 * ((b1 + b2 + b3 + b4) + 256 * ((b2 + b3 + b4 + b5) + 256 * ((b3 + b4 + b5 + b6) + 256 * ((b4 + b5 + b6 + b7) + 256 * ((b5 + b6 + b7) + 256 * ((b6 + b7) + 256 * b7)))))) := by
  have a1 : y / 2 ^ 16 = (b2 + b3) + 256 * ((b3 + b4) + 256 * ((b4 + b5) + 256 * ((b5 + b6) + 256 * ((b6 + b7) + 256 * b7)))) := by omega
  rw [a1]
  constructor <;> omega
theorem end3 (hv : v = (b0 + b1 + b2 + b3) + 256 * ((b1 + b2 + b3 + b4) + 256 * ((b2 + b3 + b4 + b5) + 256 * ((b3 + b4 + b5 + b6) + 256 * ((b4 + b5 + b6 + b7) + 256 * ((b5 + b6 + b7) + 256 * ((b6 + b7) + 256 * b7))))))) :
    v < 2 ^ 62 ∧ v + v / 2 ^ 32 < 2 ^ 63 ∧ (v + v / 2 ^ 32) % 128 = b0 + (b1 + (b2 + (b3 + (b4 + (b5 + (b6 + b7)))))) := by
  have a1 : v / 2 ^ 32 = (b4 + b5 + b6 + b7) + 256 * ((b5 + b6 + b7) + 256 * ((b6 + b7) + 256 * b7)) := by omega
  rw [a1]
  refine ⟨by omega, by omega, by omega⟩
end
/-- the last three steps -/
theorem pop_end (z : Nat) : ∃ x y v u, fields 8 (popc 8) 8 z = x ∧ x < 2 ^ 60 ∧ x + x / 2 ^ 8 = y ∧ y < 2 ^ 61 ∧ y + y / 2 ^ 16 = v ∧ v < 2 ^ 62 ∧ v + v / 2 ^ 32 = u ∧ u < 2 ^ 63 ∧ u % 128 = popc 64 z := by
  obtain ⟨b0, b1, b2, b3, b4, b5, b6, b7, h0, h1, h2, h3, h4, h5, h6, h7, e1, e2⟩ := pop_sum z
  obtain ⟨x1, x2⟩ := end1 h0 h1 h2 h3 h4 h5 h6 h7 e1
  obtain ⟨y1, y2⟩ := end2 h0 h1 h2 h3 h4 h5 h6 h7 x2
  obtain ⟨v1, v2, v3⟩ := end3 h0 h1 h2 h3 h4 h5 h6 h7 y2
  exact ⟨_, _, _, _, rfl, x1, rfl, y1, rfl, v1, rfl, v2, v3.trans e2.symm⟩
end Go.Proofs.YtcmglgkopgfheaaDoor.bit
