/- Quotients stand in their order: plain mathematics over words, and the contract of Ratio where the quotient is a number. -/
import Derived.Test.YtnnlkjbnonkjmaaRound
import Derived.Test.YtnnlkjbnonkjmaaFloDiv
namespace Go.Proofs.Ytnnlkjbnonkjmaa.rnd
open Go Ieee Go.RowKit Go.ChangeShapes Go.WideShapes Go.ChangeAt Go.Proofs.Ytnnlkjbnonkjmaa.words Go.Proofs.Ytnnlkjbnonkjmaa.flo
set_option linter.unusedVariables false
/-- a rung's key -/
def kv (R : Nat) : Int := if R < 2 ^ 52 then (R : Int) else if R < 2047 * 2 ^ 52 then (((2 ^ 52 + R % 2 ^ 52) * 2 ^ (R / 2 ^ 52 - 1) : Nat) : Int) else top
theorem key_rung {R : Nat} (h : R ≤ 2047 * 2 ^ 52) : key (double.word false R) = some (kv R) := by
  have hr := read_word false R (by omega)
  unfold rd at hr
  unfold kv
  by_cases h1 : R < 2 ^ 52
  · rw [if_pos h1] at hr ⊢
    rw [key_num hr, least_val]
    simp [signed]
  · rw [if_neg h1] at hr ⊢
    by_cases h2 : R < 2047 * 2 ^ 52
    · rw [if_pos h2] at hr ⊢
      rw [key_num hr, least_val]
      have e : ((-1074 : Int) + ((R / 2 ^ 52 - 1 : Nat) : Int) + 1074).toNat = R / 2 ^ 52 - 1 := by omega
      rw [e]
      simp only [signed, Bool.false_eq_true, if_false, Nat.shiftLeft_eq]
    · rw [if_neg h2] at hr ⊢
      rw [if_pos (by omega)] at hr
      unfold key
      rw [hr]
      rfl
theorem kv_mono {R S : Nat} (h : R ≤ S) (hS : S ≤ 2047 * 2 ^ 52) : kv R ≤ kv S := by
  unfold kv
  by_cases h1 : R < 2 ^ 52
  · rw [if_pos h1]
    by_cases h2 : S < 2 ^ 52
    · rw [if_pos h2]; omega
    · rw [if_neg h2]
      by_cases h3 : S < 2047 * 2 ^ 52
      · rw [if_pos h3]
        have h4 : 2 ^ 52 * 1 ≤ (2 ^ 52 + S % 2 ^ 52) * 2 ^ (S / 2 ^ 52 - 1) := Nat.mul_le_mul (by omega) (pow_pos2 _)
        omega
      · rw [if_neg h3]
        have := (num_bd (m := R) (p := -1074) (by omega) (by omega) false).2
        simp [signed] at this
        omega
  · have h2 : ¬ S < 2 ^ 52 := by omega
    rw [if_neg h1, if_neg h2]
    by_cases h3 : S < 2047 * 2 ^ 52
    · rw [if_pos h3, if_pos (by omega)]
      refine Int.ofNat_le.2 ?_
      have hq : R / 2 ^ 52 ≤ S / 2 ^ 52 := Nat.div_le_div_right h
      have hR1 : 1 ≤ R / 2 ^ 52 := by omega
      have er := Nat.div_add_mod R (2 ^ 52)
      have es := Nat.div_add_mod S (2 ^ 52)
      have lr : R % 2 ^ 52 < 2 ^ 52 := Nat.mod_lt _ (by decide)
      generalize R / 2 ^ 52 = q at *
      generalize S / 2 ^ 52 = p at *
      generalize R % 2 ^ 52 = x at *
      generalize S % 2 ^ 52 = y at *
      generalize 2 ^ 52 = z at *
      rcases Nat.eq_or_lt_of_le hq with rfl | hlt
      · exact Nat.mul_le_mul_right _ (by omega)
      · have e1 : 2 ^ (p - 1) = 2 ^ (q - 1) * 2 ^ (p - q) := by rw [← Nat.pow_add]; congr 1; omega
        rw [e1, Nat.mul_comm (2 ^ (q - 1)), ← Nat.mul_assoc]
        refine Nat.mul_le_mul_right _ ?_
        have e2 : 2 * 2 ^ (p - q - 1) = 2 ^ (p - q) := by rw [Nat.mul_comm, ← Nat.pow_succ]; congr 1; omega
        have e3 := pow_pos2 (p - q - 1)
        have e4 : z * 2 ≤ (z + y) * 2 ^ (p - q) := Nat.mul_le_mul (by omega) (by omega)
        omega
    · rw [if_neg h3]
      by_cases h4 : R < 2047 * 2 ^ 52
      · rw [if_pos h4]
        have hm : 2 ^ 52 + R % 2 ^ 52 < 2 ^ 53 := by omega
        have hq : R / 2 ^ 52 < 2047 := Nat.div_lt_of_lt_mul (by omega)
        have := (num_bd (m := 2 ^ 52 + R % 2 ^ 52) (p := -1074 + ((R / 2 ^ 52 - 1 : Nat) : Int)) hm (by omega) false).2
        have e : ((-1074 : Int) + ((R / 2 ^ 52 - 1 : Nat) : Int) + 1074).toNat = R / 2 ^ 52 - 1 := by omega
        rw [e] at this
        simp only [signed, Bool.false_eq_true, if_false, Nat.shiftLeft_eq] at this
        exact Int.le_of_lt this
      · rw [if_neg h4]; exact Int.le_refl _
theorem rounded_nought (D : Nat) (hD : 0 < D) : Rounded 0 D 0 := by
  refine ⟨0, 0, by omega, ?_, .inl rfl, ?_⟩
  · rw [Nat.pow_zero, Nat.mul_one]
    refine ⟨by omega, by omega, fun _ => rfl⟩
  · rw [Nat.pow_zero, Nat.mul_one]
    exact Nat.mul_pos (pow_pos2 _) hD
/-- a whole number as a float -/
theorem int_float (n c : Nat) (hc : c = 1074) (hn : n ≤ 2 ^ 63) : ∃ R m i, floatOfInt .f64 (n : Int) = double.word false R ∧ R ≤ 2047 * 2 ^ 52 ∧ Rounded (n * 2 ^ c) 1 R ∧
    double.read (floatOfInt .f64 (n : Int)) = .number false m i ∧ -1074 ≤ i := by
  have e0 : floatOfInt .f64 (n : Int) = double.nearest (decide ((n : Int) < 0)) (n : Int).natAbs 0 := rfl
  obtain ⟨m, i, hr, _⟩ := read_int (n : Int) (by omega)
  have hneg : decide ((n : Int) < 0) = false := decide_eq_false (by omega)
  rw [hneg] at hr e0
  rw [Int.natAbs_natCast] at e0
  have hi := (read_num hr).2.1
  by_cases h0 : n = 0
  · subst h0
    refine ⟨0, m, i, e0.trans (near_nought _ _), by omega, ?_, hr, hi⟩
    rw [Nat.zero_mul]
    exact rounded_nought 1 (by decide)
  · obtain ⟨R, h1, h2, h3⟩ := near_int false n c hc h0
    exact ⟨R, m, i, e0.trans h1, h2, h3, hr, hi⟩
theorem key_mag {f m : Nat} {i : Int} (h : double.read f = .number false m i) : key f = some ((m * 2 ^ (i + 1074).toNat : Nat) : Int) := by
  rw [key_num h]
  simp only [signed, Bool.false_eq_true, if_false, Nat.shiftLeft_eq]
theorem int_mag_mono {a b m n : Nat} {i j : Int} (ha : a ≤ 2 ^ 63) (hb : b ≤ 2 ^ 63) (h : a ≤ b) (h1 : double.read (floatOfInt .f64 (a : Int)) = .number false m i) (h2 : double.read (floatOfInt .f64 (b : Int)) = .number false n j) :
    m * 2 ^ (i + 1074).toNat ≤ n * 2 ^ (j + 1074).toNat := by
  obtain ⟨c, hc⟩ : ∃ c : Nat, c = 1074 := ⟨_, rfl⟩
  obtain ⟨R, _, _, e1, l1, r1, _, _⟩ := int_float a c hc ha
  obtain ⟨S, _, _, e2, l2, r2, _, _⟩ := int_float b c hc hb
  have hRS : R ≤ S := rounded_mono (by decide) (by decide) r1 r2 (by rw [Nat.mul_one, Nat.mul_one]; exact Nat.mul_le_mul_right _ h)
  have k1 := key_mag h1
  have k2 := key_mag h2
  rw [e1, key_rung l1] at k1
  rw [e2, key_rung l2] at k2
  have := kv_mono hRS l2
  have k1 := Option.some.inj k1
  have k2 := Option.some.inj k2
  omega
/-- what there is of a quotient: its word, and its key -/
theorem quo_keys {w n : Nat} {j : Int} (hw : double.read w = .number false n j) (hn : n ≠ 0) (a : Nat) (ha : a ≤ 2 ^ 63) :
    ∃ R, double.div (floatOfInt .f64 (a : Int)) w = some (double.word false R) ∧ R ≤ 2047 * 2 ^ 52 ∧ key (double.word false R) = some (kv R) ∧
      ∀ c, c = 1074 → ∃ m i, double.read (floatOfInt .f64 (a : Int)) = .number false m i ∧ Rounded (m * 2 ^ (i + 1074).toNat * 2 ^ c) (n * 2 ^ (j + 1074).toNat) R := by
  obtain ⟨c, hc⟩ : ∃ c : Nat, c = 1074 := ⟨_, rfl⟩
  obtain ⟨_, m, i, _, _, _, hr, hi⟩ := int_float a c hc ha
  obtain ⟨R, h1, h2, h3⟩ := div_rounded hr hw hn hi (read_num hw).2.1 c hc
  refine ⟨R, h1, h2, key_rung h2, fun c' hc' => ?_⟩
  obtain rfl : c' = c := by omega
  exact ⟨m, i, hr, h3⟩
theorem cmp_self (x : Option Int) : cmpK x x = 0 := by cases x <;> simp [cmpK]
theorem cmp_of_le {R S : Nat} (h : R ≤ S) (hS : S ≤ 2047 * 2 ^ 52) : cmpK (some (kv R)) (some (kv S)) ≤ 0 ∧ 0 ≤ cmpK (some (kv S)) (some (kv R)) := by
  have := kv_mono h hS
  constructor
  · simp only [cmpK]; split
    · omega
    · split <;> omega
  · simp only [cmpK]; split
    · omega
    · split <;> omega
/-- of one weight -/
theorem size_mono {w n a b R S : Nat} {j : Int} (hw : double.read w = .number false n j) (hn : n ≠ 0) (ha : a ≤ 2 ^ 63) (hb : b ≤ 2 ^ 63) (h : a ≤ b)
    (h1 : ∀ c, c = 1074 → ∃ m i, double.read (floatOfInt .f64 (a : Int)) = .number false m i ∧ Rounded (m * 2 ^ (i + 1074).toNat * 2 ^ c) (n * 2 ^ (j + 1074).toNat) R)
    (h2 : ∀ c, c = 1074 → ∃ m i, double.read (floatOfInt .f64 (b : Int)) = .number false m i ∧ Rounded (m * 2 ^ (i + 1074).toNat * 2 ^ c) (n * 2 ^ (j + 1074).toNat) S) : R ≤ S := by
  obtain ⟨c, hc⟩ : ∃ c : Nat, c = 1074 := ⟨_, rfl⟩
  obtain ⟨m, i, e1, r1⟩ := h1 c hc
  obtain ⟨k, l, e2, r2⟩ := h2 c hc
  have hD : 0 < n * 2 ^ (j + 1074).toNat := Nat.mul_pos (by omega) (pow_pos2 _)
  refine rounded_mono hD hD r1 r2 ?_
  exact Nat.mul_le_mul_right _ (Nat.mul_le_mul_right _ (int_mag_mono ha hb h e1 e2))
/-- of one size -/
theorem weight_mono {w v n p a R S : Nat} {j q : Int} (hw : double.read w = .number false n j) (hn : n ≠ 0) (hv : double.read v = .number false p q) (hp : p ≠ 0) (h : p * 2 ^ (q + 1074).toNat ≤ n * 2 ^ (j + 1074).toNat)
    (h1 : ∀ c, c = 1074 → ∃ m i, double.read (floatOfInt .f64 (a : Int)) = .number false m i ∧ Rounded (m * 2 ^ (i + 1074).toNat * 2 ^ c) (n * 2 ^ (j + 1074).toNat) R)
    (h2 : ∀ c, c = 1074 → ∃ m i, double.read (floatOfInt .f64 (a : Int)) = .number false m i ∧ Rounded (m * 2 ^ (i + 1074).toNat * 2 ^ c) (p * 2 ^ (q + 1074).toNat) S) : R ≤ S := by
  obtain ⟨c, hc⟩ : ∃ c : Nat, c = 1074 := ⟨_, rfl⟩
  obtain ⟨m, i, e1, r1⟩ := h1 c hc
  obtain ⟨k, l, e2, r2⟩ := h2 c hc
  rw [e1] at e2
  injection e2 with _ e3 e4
  subst e3 e4
  have hD : 0 < n * 2 ^ (j + 1074).toNat := Nat.mul_pos (by omega) (pow_pos2 _)
  have hE : 0 < p * 2 ^ (q + 1074).toNat := Nat.mul_pos (by omega) (pow_pos2 _)
  exact rounded_mono hD hE r1 r2 (Nat.mul_le_mul_left _ h)
theorem ratio_fin (n : Int) (b r : Nat) (w : World) (h : double.div (floatOfInt .f64 n) b = some r) : Calls Try.prog 16 #[.int .i64 n, .float .f64 b] w fun e w' => e = .returned (.float .f64 r) ∧ w = w' := by
  obtain ⟨f, hf⟩ : ∃ f, floatOfInt .f64 n = f := ⟨_, rfl⟩
  have h' : floatBits .quo .f64 f b = some r := by rw [← hf]; exact h
  have hq := fun w => run_float_arith (P := Try.prog) w .quo 24 .f64 f b r h'
  clear h h'
  go_enter Try.func16, Try.ntmps16
  go_wp2
  go_ret
  exact ⟨rfl, rfl⟩
end Go.Proofs.Ytnnlkjbnonkjmaa.rnd
