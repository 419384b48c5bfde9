/- Rounding is monotone: plain mathematics over words, no program. -/
import Derived.Test.YtnnlkjbnonkjmaaKeys
namespace Go.Proofs.Ytnnlkjbnonkjmaa.rnd
open Ieee
set_option linter.unusedVariables false
/-- r is N / D to the nearest, between two the even one -/
def RE (N D r : Nat) : Prop := 2 * (r * D) ≤ 2 * N + D ∧ 2 * N ≤ 2 * (r * D) + D ∧ (2 * N + D = 2 * (r * D) ∨ 2 * N = 2 * (r * D) + D → r % 2 = 0)
theorem re_scale {N D r c : Nat} (hc : 0 < c) : RE (N * c) (D * c) r ↔ RE N D r := by
  unfold RE
  have e1 : ∀ a b : Nat, a * c ≤ b * c ↔ a ≤ b := fun a b => Nat.mul_le_mul_right_iff hc
  have e2 : ∀ a b : Nat, a * c = b * c ↔ a = b := fun a b => Nat.mul_right_cancel_iff hc
  rw [show 2 * (r * (D * c)) = (2 * (r * D)) * c by rw [Nat.mul_assoc, Nat.mul_assoc], show 2 * (N * c) + D * c = (2 * N + D) * c by rw [Nat.add_mul, Nat.mul_assoc], show 2 * (N * c) = (2 * N) * c by rw [Nat.mul_assoc], show 2 * (r * D) * c + D * c = (2 * (r * D) + D) * c by rw [Nat.add_mul]]
  rw [e1, e1, e2, e2]
theorem pow_pos2 (k : Nat) : 0 < 2 ^ k := Nat.pow_pos (by decide)
theorem re_shift {m n a b a' b' r : Nat} (h : a + b' = a' + b) : RE (m * 2 ^ a) (n * 2 ^ b) r ↔ RE (m * 2 ^ a') (n * 2 ^ b') r := by
  rw [← re_scale (pow_pos2 b'), ← re_scale (N := m * 2 ^ a') (pow_pos2 b), Nat.mul_assoc, Nat.mul_assoc, Nat.mul_assoc, Nat.mul_assoc, ← Nat.pow_add, ← Nat.pow_add, ← Nat.pow_add, ← Nat.pow_add, h, Nat.add_comm b b']
theorem re_mono {N D M E r s : Nat} (hD : 0 < D) (hE : 0 < E) (h1 : RE N D r) (h2 : RE M E s) (h : N * E ≤ M * D) : r ≤ s := by
  refine Nat.le_of_not_lt fun hlt => ?_
  obtain ⟨a1, a2, a3⟩ := h1
  obtain ⟨b1, b2, b3⟩ := h2
  -- (2r - 1) D E ≤ 2 N E ≤ 2 M D ≤ (2s + 1) D E
  have c1 : 2 * (r * D) * E ≤ (2 * N + D) * E := Nat.mul_le_mul_right _ a1
  have c2 : 2 * M * D ≤ (2 * (s * E) + E) * D := Nat.mul_le_mul_right _ b2
  have e1 : 2 * (r * D) * E = 2 * (r * (D * E)) := by rw [Nat.mul_assoc, Nat.mul_assoc]
  have e2 : (2 * N + D) * E = 2 * (N * E) + D * E := by rw [Nat.add_mul, Nat.mul_assoc]
  have e3 : 2 * M * D = 2 * (M * D) := by rw [Nat.mul_assoc]
  have e4 : (2 * (s * E) + E) * D = 2 * (s * (D * E)) + D * E := by rw [Nat.add_mul, Nat.mul_assoc, Nat.mul_assoc, Nat.mul_comm E D]
  rw [e1, e2] at c1
  rw [e3, e4] at c2
  have hP : 0 < D * E := Nat.mul_pos hD hE
  have hrs : r = s + 1 := by
    refine Nat.le_antisymm ?_ hlt
    refine Nat.le_of_not_lt fun h5 => ?_
    have : (s + 2) * (D * E) ≤ r * (D * E) := Nat.mul_le_mul_right _ h5
    rw [Nat.add_mul] at this
    generalize r * (D * E) = x at *
    generalize s * (D * E) = y at *
    generalize D * E = z at *
    omega
  subst hrs
  have e5 : (s + 1) * (D * E) = s * (D * E) + D * E := by rw [Nat.add_mul, Nat.one_mul]
  rw [e5] at c1
  have k1 : 2 * (N * E) + D * E = 2 * (s * (D * E) + D * E) := by
    generalize s * (D * E) = y at *
    generalize D * E = z at *
    omega
  have k2 : 2 * (M * D) = 2 * (s * (D * E)) + D * E := by
    generalize s * (D * E) = y at *
    generalize D * E = z at *
    omega
  have t1 : 2 * N + D = 2 * ((s + 1) * D) := by
    refine Nat.eq_of_mul_eq_mul_right hE ?_
    rw [e2, k1, Nat.mul_assoc, Nat.mul_assoc, e5]
  have t2 : 2 * M = 2 * (s * E) + E := by
    refine Nat.eq_of_mul_eq_mul_right hD ?_
    rw [e3, k2, e4]
  have := a3 (.inl t1)
  have := b3 (.inr t2)
  omega
/-- R is the rung of N / D units of the least place -/
def Rounded (N D R : Nat) : Prop := ∃ l r, R = min (l * 2 ^ 52 + r) (2047 * 2 ^ 52) ∧ RE N (D * 2 ^ l) r ∧ (l = 0 ∨ 2 ^ 52 * (D * 2 ^ l) ≤ N) ∧ N < 2 ^ 53 * (D * 2 ^ l)
theorem re_int {D c : Nat} (hD : 0 < D) : RE (c * D) D c := by
  refine ⟨by omega, by omega, fun h => ?_⟩
  omega
theorem rounded_mono {N D M E R S : Nat} (hD : 0 < D) (hE : 0 < E) (h1 : Rounded N D R) (h2 : Rounded M E S) (h : N * E ≤ M * D) : R ≤ S := by
  obtain ⟨l, r, rfl, a1, a2, a3⟩ := h1
  obtain ⟨k, s, rfl, b1, b2, b3⟩ := h2
  obtain ⟨z, hz⟩ : ∃ z, 2 ^ 52 = z := ⟨_, rfl⟩
  have e53 : 2 ^ 53 = 2 * z := by rw [← hz]
  rw [hz] at a2 b2 ⊢
  rw [e53] at a3 b3
  clear e53 hz
  generalize 2047 * z = zz
  have pl := pow_pos2 l
  have pk := pow_pos2 k
  have hDl : 0 < D * 2 ^ l := Nat.mul_pos hD pl
  have hEk : 0 < E * 2 ^ k := Nat.mul_pos hE pk
  -- l ≤ k
  have hlk : l ≤ k := by
    refine Nat.le_of_not_lt fun hlt => ?_
    have a2' : z * (D * 2 ^ l) ≤ N := by
      rcases a2 with rfl | a2
      · omega
      · exact a2
    have hp : 2 ^ l = 2 ^ k * 2 ^ (l - k - 1) * 2 := by rw [← Nat.pow_add, ← Nat.pow_succ]; congr 1; omega
    have hq : 2 ^ k * 2 ≤ 2 ^ l := by
      rw [hp, Nat.mul_assoc]
      refine Nat.mul_le_mul_left _ ?_
      have := pow_pos2 (l - k - 1)
      omega
    have x1 : 2 * z * (D * 2 ^ k) ≤ N := by
      refine Nat.le_trans ?_ a2'
      rw [Nat.mul_comm 2 z, Nat.mul_assoc]
      refine Nat.mul_le_mul_left _ ?_
      rw [Nat.mul_left_comm]
      exact Nat.mul_le_mul_left _ (by rw [Nat.mul_comm]; exact hq)
    have x2 : 2 * z * (D * 2 ^ k) * E ≤ N * E := Nat.mul_le_mul_right _ x1
    have x3 : M * D < 2 * z * (E * 2 ^ k) * D := Nat.mul_lt_mul_of_pos_right b3 hD
    have x4 : 2 * z * (D * 2 ^ k) * E = 2 * z * (E * 2 ^ k) * D := by simp only [Nat.mul_comm, Nat.mul_left_comm, Nat.mul_assoc]
    omega
  rcases Nat.eq_or_lt_of_le hlk with rfl | hlt
  · have : r ≤ s := by
      refine re_mono hDl hEk a1 b1 ?_
      rw [← Nat.mul_assoc, ← Nat.mul_assoc]
      exact Nat.mul_le_mul_right _ h
    generalize l * z = y
    omega
  · have hr : r ≤ 2 * z := by
      refine re_mono hDl hDl a1 (re_int (c := 2 * z) hDl) ?_
      exact Nat.mul_le_mul_right _ (Nat.le_of_lt a3)
    have hs : z ≤ s := by
      refine re_mono hEk hEk (re_int (c := z) hEk) b1 ?_
      refine Nat.mul_le_mul_right _ ?_
      rcases b2 with rfl | b2
      · omega
      · exact b2
    have := Nat.mul_le_mul_right z hlt
    rw [Nat.succ_mul] at this
    generalize l * z = x1 at *
    generalize k * z = x2 at *
    omega
theorem cut_re (s : Bool) (n d : Nat) : RE n (2 ^ d) (Toward.even.cut s n d) := by
  unfold Toward.cut
  simp only
  by_cases hd : d ≤ n.log2 + 2
  · rw [Nat.min_eq_left hd, Nat.shiftLeft_eq, Nat.one_mul]
    have hp := pow_pos2 d
    have e := Nat.div_add_mod n (2 ^ d)
    have hlt := Nat.mod_lt n hp
    generalize n / 2 ^ d = low at *
    generalize n % 2 ^ d = rest at *
    generalize 2 ^ d = D at *
    rw [Nat.mul_comm] at e
    unfold RE
    by_cases h1 : D < 2 * rest
    · rw [show (decide (D < 2 * rest) || (D == 2 * rest && low % 2 == 1)).toNat = 1 by simp [h1], Nat.add_mul]
      generalize low * D = y at *
      refine ⟨by omega, by omega, fun h => by omega⟩
    · by_cases h2 : D = 2 * rest ∧ low % 2 = 1
      · rw [show (decide (D < 2 * rest) || (D == 2 * rest && low % 2 == 1)).toNat = 1 by simp [h2.1, h2.2], Nat.add_mul]
        generalize low * D = y at *
        refine ⟨by omega, by omega, fun h => by omega⟩
      · rw [show (decide (D < 2 * rest) || (D == 2 * rest && low % 2 == 1)).toNat = 0 by simp [h1]; omega, Nat.add_zero]
        generalize low * D = y at *
        refine ⟨by omega, by omega, fun h => by omega⟩
  · rw [Nat.min_eq_right (by omega), Nat.shiftLeft_eq, Nat.one_mul]
    have h1 : n < 2 ^ (n.log2 + 1) := Nat.lt_log2_self
    have h2 : 2 ^ (n.log2 + 2) = 2 * 2 ^ (n.log2 + 1) := by rw [Nat.pow_succ, Nat.mul_comm]
    have h3 : 2 ^ (n.log2 + 2) ≤ 2 ^ d := Nat.pow_le_pow_right (by decide) (by omega)
    rw [Nat.div_eq_of_lt (by omega), Nat.mod_eq_of_lt (by omega)]
    rw [show (decide (2 ^ (n.log2 + 2) < 2 * n) || (2 ^ (n.log2 + 2) == 2 * n && 0 % 2 == 1)).toNat = 0 by
      rw [decide_eq_false (by omega)]; simp]
    refine ⟨by omega, by omega, fun _ => rfl⟩
/-- the rung that nearest writes -/
theorem near_re (s : Bool) (Q : Nat) (P : Int) (hQ : Q ≠ 0) : ∃ l r : Nat, ∃ L : Int, L = max (P + Q.log2 - 52) (-1074) ∧ l = (L + 1074).toNat ∧
    double.nearest s Q P = double.word s (min (l * 2 ^ 52 + r) (2047 * 2 ^ 52)) ∧ RE (Q * 2 ^ (P - L).toNat) (2 ^ (L - P).toNat) r := by
  unfold Format.nearest
  rw [if_neg hQ]
  have hf : (double.fractionBits : Int) = 52 := by decide
  have hb : double.binade = 2 ^ 52 := by decide
  have hi : double.infRung = 2047 * 2 ^ 52 := by decide
  have hl : double.leastPlace = -1074 := by decide
  rw [hf, hb, hi, hl]
  refine ⟨_, _, _, rfl, rfl, rfl, ?_⟩
  rw [← Nat.shiftLeft_eq]
  exact cut_re _ _ _
theorem near_int (s : Bool) (Q c : Nat) (hc : c = 1074) (hQ : Q ≠ 0) : ∃ R, double.nearest s Q 0 = double.word s R ∧ R ≤ 2047 * 2 ^ 52 ∧ Rounded (Q * 2 ^ c) 1 R := by
  obtain ⟨l, r, L, hL, hl, e, h⟩ := near_re s Q 0 hQ
  refine ⟨_, e, Nat.min_le_right _ _, l, r, rfl, ?_, ?_, ?_⟩
  · rw [show RE (Q * 2 ^ c) (1 * 2 ^ l) r ↔ RE (Q * 2 ^ (0 - L).toNat) (1 * 2 ^ (L - 0).toNat) r from re_shift (by omega), Nat.one_mul]
    exact h
  · have h1 : 2 ^ Q.log2 ≤ Q := Nat.log2_self_le hQ
    by_cases h0 : l = 0
    · exact .inl h0
    · right
      have : (2 : Nat) ^ 52 * (1 * 2 ^ l) = 2 ^ Q.log2 * 2 ^ c := by rw [Nat.one_mul, ← Nat.pow_add, ← Nat.pow_add]; congr 1; omega
      rw [this]
      exact Nat.mul_le_mul_right _ h1
  · have h2 : Q < 2 ^ (Q.log2 + 1) := Nat.lt_log2_self
    have : (2 : Nat) ^ 53 * (1 * 2 ^ l) = 2 ^ (53 + l) := by rw [Nat.one_mul, ← Nat.pow_add]
    rw [this]
    refine Nat.lt_of_lt_of_le (Nat.mul_lt_mul_of_pos_right h2 (pow_pos2 _)) ?_
    rw [← Nat.pow_add]
    exact Nat.pow_le_pow_right (by decide) (by omega)
/-- a digit that only tells that something is left over -/
theorem re_sticky {M n r h : Nat} (hn : 0 < n) (hq : RE (2 * (M / n) + (M % n != 0).toNat) (2 * (2 * h)) r) (hh : 0 < h) : RE M (n * (2 * h)) r := by
  have e := Nat.div_add_mod M n
  have hlt := Nat.mod_lt M hn
  have hs : (M % n = 0 ∧ (M % n != 0).toNat = 0) ∨ (0 < M % n ∧ (M % n != 0).toNat = 1) := by
    by_cases h0 : M % n = 0
    · exact .inl ⟨h0, by simp [h0]⟩
    · exact .inr ⟨by omega, by simp [h0]⟩
  generalize (M % n != 0).toNat = s at *
  generalize M / n = f at *
  generalize M % n = t at *
  unfold RE at hq ⊢
  have e0 : r * (2 * (2 * h)) = 4 * (r * h) := by rw [← Nat.mul_assoc 2 2 h, Nat.mul_left_comm]
  rw [e0] at hq
  have e1 : r * (n * (2 * h)) = n * (2 * (r * h)) := by rw [Nat.mul_left_comm n 2 h, Nat.mul_left_comm r 2, Nat.mul_left_comm n 2, Nat.mul_left_comm r n]
  rw [e1]
  obtain ⟨q1, q2, q3⟩ := hq
  generalize r * h = x at *
  -- in the unit n: 2x·2 ≤ 2f + 2h + ..
  have k1 : 2 * x ≤ f + h := by omega
  have k1' : n * (2 * x) ≤ n * (f + h) := Nat.mul_le_mul_left _ k1
  have d1 : n * (f + h) = n * f + n * h := Nat.mul_add _ _ _
  have d2 : n * (2 * h) = 2 * (n * h) := Nat.mul_left_comm _ _ _
  rw [d2]
  refine ⟨by generalize n * (2 * x) = a at *; generalize n * f = b at *; generalize n * h = c at *; omega, ?_, ?_⟩
  · rcases hs with ⟨rfl, rfl⟩ | ⟨h1, rfl⟩
    · have k2 : f ≤ 2 * x + h := by omega
      have k2' : n * f ≤ n * (2 * x + h) := Nat.mul_le_mul_left _ k2
      rw [Nat.mul_add] at k2'
      generalize n * (2 * x) = a at *; generalize n * f = b at *; generalize n * h = c at *; omega
    · have k2 : f + 1 ≤ 2 * x + h := by omega
      have k2' : n * (f + 1) ≤ n * (2 * x + h) := Nat.mul_le_mul_left _ k2
      rw [Nat.mul_add, Nat.mul_add, Nat.mul_one] at k2'
      generalize n * (2 * x) = a at *; generalize n * f = b at *; generalize n * h = c at *; omega
  · intro ht
    have hx : n * (2 * x) = 2 * (n * x) := Nat.mul_left_comm _ _ _
    rcases hs with ⟨rfl, rfl⟩ | ⟨h1, rfl⟩
    · refine q3 ?_
      rcases ht with ht | ht
      · left
        have : n * (f + h) = n * (2 * x) := by rw [Nat.mul_add]; generalize n * (2 * x) = a at *; generalize n * f = b at *; generalize n * h = c at *; omega
        have := Nat.eq_of_mul_eq_mul_left hn this
        omega
      · right
        have : n * f = n * (2 * x + h) := by rw [Nat.mul_add]; generalize n * (2 * x) = a at *; generalize n * f = b at *; generalize n * h = c at *; omega
        have := Nat.eq_of_mul_eq_mul_left hn this
        omega
    · exfalso
      rcases ht with ht | ht
      · have k3 : n * (2 * x) = n * (f + h) + t := by rw [Nat.mul_add]; generalize n * (2 * x) = a at *; generalize n * f = b at *; generalize n * h = c at *; omega
        omega
      · have k2 : f + 1 ≤ 2 * x + h := by omega
        have k2' : n * (f + 1) ≤ n * (2 * x + h) := Nat.mul_le_mul_left _ k2
        rw [Nat.mul_add, Nat.mul_add, Nat.mul_one] at k2'
        generalize n * (2 * x) = a at *; generalize n * f = b at *; generalize n * h = c at *; omega
theorem near_nought (s : Bool) (P : Int) : double.nearest s 0 P = double.word s 0 := by
  unfold Format.nearest
  rw [if_pos rfl]
theorem div_rounded {f w m n : Nat} {i j : Int} (hf : double.read f = .number false m i) (hw : double.read w = .number false n j) (hn : n ≠ 0) (hi : -1074 ≤ i) (hj : -1074 ≤ j) (c : Nat) (hc : c = 1074) :
    ∃ R, double.div f w = some (double.word false R) ∧ R ≤ 2047 * 2 ^ 52 ∧ Rounded (m * 2 ^ (i + 1074).toNat * 2 ^ c) (n * 2 ^ (j + 1074).toNat) R := by
  have hd : double.div f w = some (double.nearest false (2 * ((m <<< (54 + n.log2 - m.log2)) / n) + ((m <<< (54 + n.log2 - m.log2)) % n != 0).toNat) (i - j - (54 + n.log2 - m.log2 : Nat) - 1)) := by
    unfold Format.div
    rw [hf, hw]
    simp only [Datum.quotient, if_neg hn, Option.map_some]
    rfl
  have hn0 : 0 < n := by omega
  have hD : 0 < n * 2 ^ (j + 1074).toNat := Nat.mul_pos hn0 (pow_pos2 _)
  by_cases hm : m = 0
  · subst hm
    refine ⟨0, ?_, by omega, 0, 0, by omega, ?_, .inl rfl, ?_⟩
    · have hz : 2 * ((0 <<< (54 + n.log2 - Nat.log2 0)) / n) + ((0 <<< (54 + n.log2 - Nat.log2 0)) % n != 0).toNat = 0 := by simp
      rw [hd, hz, near_nought]
    · rw [Nat.zero_mul, Nat.zero_mul, Nat.pow_zero, Nat.mul_one]
      refine ⟨by omega, by omega, fun _ => rfl⟩
    · rw [Nat.zero_mul, Nat.zero_mul, Nat.pow_zero, Nat.mul_one]
      exact Nat.mul_pos (pow_pos2 _) hD
  · have hm1 : 2 ^ m.log2 ≤ m := Nat.log2_self_le hm
    have hn2 : n < 2 ^ (n.log2 + 1) := Nat.lt_log2_self
    obtain ⟨k, hk⟩ : ∃ k, 54 + n.log2 - m.log2 = k := ⟨_, rfl⟩
    rw [hk] at hd
    have hM : 2 ^ (54 + n.log2) ≤ m <<< k := by
      rw [Nat.shiftLeft_eq]
      refine Nat.le_trans ?_ (Nat.mul_le_mul_right _ hm1)
      rw [← Nat.pow_add]
      exact Nat.pow_le_pow_right (by decide) (by omega)
    have hfl : 2 ^ 53 ≤ (m <<< k) / n := by
      rw [Nat.le_div_iff_mul_le hn0]
      refine Nat.le_trans (Nat.mul_le_mul_left _ (Nat.le_of_lt hn2)) ?_
      rw [← Nat.pow_add, show 53 + (n.log2 + 1) = 54 + n.log2 by omega]
      exact hM
    have hsl : ((m <<< k) % n != 0).toNat ≤ 1 := by cases ((m <<< k) % n != 0) <;> decide
    have hst : ∀ l r : Nat, RE (2 * ((m <<< k) / n) + ((m <<< k) % n != 0).toNat) (2 * (2 * l)) r → 0 < l → RE (m <<< k) (n * (2 * l)) r := fun l r h h0 => re_sticky hn0 h h0
    -- bounds of the exact quotient by those of Q
    have hge : ∀ c, 2 * c ≤ 2 * ((m <<< k) / n) + ((m <<< k) % n != 0).toNat → n * c ≤ m <<< k := fun c hc => by
      have : c ≤ (m <<< k) / n := by omega
      rw [Nat.mul_comm]
      exact (Nat.le_div_iff_mul_le hn0).1 this
    have hlt : ∀ c, 2 * ((m <<< k) / n) + ((m <<< k) % n != 0).toNat < 2 * c → m <<< k < n * c := fun c hc => by
      have : (m <<< k) / n < c := by omega
      rw [Nat.mul_comm]
      exact (Nat.div_lt_iff_lt_mul hn0).1 this
    generalize hQe : 2 * ((m <<< k) / n) + ((m <<< k) % n != 0).toNat = Q at *
    have hQ54 : 2 ^ 54 ≤ Q := by omega
    have hQ0 : Q ≠ 0 := by omega
    have hlog : 54 ≤ Q.log2 := (Nat.le_log2 hQ0).2 hQ54
    have hQ1 : 2 ^ Q.log2 ≤ Q := Nat.log2_self_le hQ0
    have hQ2 : Q < 2 ^ (Q.log2 + 1) := Nat.lt_log2_self
    obtain ⟨l, r, L, hL, hl, e, h⟩ := near_re false Q (i - j - (k : Nat) - 1) hQ0
    obtain ⟨d, hd2⟩ : ∃ d : Nat, L - (i - j - (k : Nat) - 1) = (d : Int) + 2 := ⟨(L - (i - j - (k : Nat) - 1) - 2).toNat, by omega⟩
    have hz : ((i - j - (k : Nat) - 1) - L).toNat = 0 := by omega
    have hz2 : (L - (i - j - (k : Nat) - 1)).toNat = d + 2 := by omega
    rw [hz, hz2, Nat.pow_zero, Nat.mul_one, show (2 : Nat) ^ (d + 2) = 2 * (2 * 2 ^ d) by rw [Nat.pow_succ, Nat.pow_succ]; omega] at h
    have h1 := hst _ _ h (pow_pos2 d)
    rw [show 2 * 2 ^ d = 2 ^ (d + 1) by rw [Nat.pow_succ, Nat.mul_comm], Nat.shiftLeft_eq] at h1
    rw [e] at hd
    have ex : m * 2 ^ (i + 1074).toNat * 2 ^ c = m * 2 ^ ((i + 1074).toNat + c) := by rw [Nat.mul_assoc, ← Nat.pow_add]
    have ey : n * 2 ^ (j + 1074).toNat * 2 ^ l = n * 2 ^ ((j + 1074).toNat + l) := by rw [Nat.mul_assoc, ← Nat.pow_add]
    refine ⟨_, hd, Nat.min_le_right _ _, l, r, rfl, ?_, ?_, ?_⟩
    · rw [ex, ey]
      exact (re_shift (by omega)).1 h1
    · by_cases h0 : l = 0
      · exact .inl h0
      · right
        have := hge (2 ^ (Q.log2 - 1)) (by rw [show 2 * 2 ^ (Q.log2 - 1) = 2 ^ Q.log2 by rw [Nat.mul_comm, ← Nat.pow_succ]; congr 1; omega]; exact hQ1)
        rw [ex, ey, Nat.mul_left_comm, ← Nat.pow_add]
        -- n * 2 ^ (52 + ..) ≤ m * 2 ^ ..
        refine Nat.le_of_mul_le_mul_right (c := 2 ^ k) ?_ (pow_pos2 k)
        rw [Nat.shiftLeft_eq] at this
        have t2 := Nat.mul_le_mul_right (2 ^ ((i + 1074).toNat + c)) this
        rw [Nat.mul_right_comm m] at t2
        refine Nat.le_trans (Nat.le_of_eq ?_) t2
        rw [Nat.mul_assoc, Nat.mul_assoc, ← Nat.pow_add, ← Nat.pow_add]
        congr 2
        omega
    · have := hlt (2 ^ Q.log2) (by rw [show 2 * 2 ^ Q.log2 = 2 ^ (Q.log2 + 1) by rw [Nat.pow_succ, Nat.mul_comm]]; exact hQ2)
      rw [ex, ey, Nat.mul_left_comm, ← Nat.pow_add]
      refine Nat.lt_of_mul_lt_mul_right (a := 2 ^ k) ?_
      rw [Nat.shiftLeft_eq] at this
      have t2 := Nat.mul_lt_mul_of_pos_right this (pow_pos2 ((i + 1074).toNat + c))
      rw [Nat.mul_right_comm m] at t2
      refine Nat.lt_of_lt_of_le t2 ?_
      rw [Nat.mul_assoc, Nat.mul_assoc, ← Nat.pow_add, ← Nat.pow_add]
      exact Nat.mul_le_mul_left _ (Nat.pow_le_pow_right (by decide) (by omega))
end Go.Proofs.Ytnnlkjbnonkjmaa.rnd
