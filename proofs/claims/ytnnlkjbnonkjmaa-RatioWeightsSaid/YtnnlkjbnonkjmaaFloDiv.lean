/- What division gives: the cases of IEEE, on words; the contracts of Ratio, IsInf, Signbit, Same. -/
import Derived.Test.YtnnlkjbnonkjmaaFloAwake
namespace Go.Proofs.Ytnnlkjbnonkjmaa.flo
open Go.ChangeShapes Go.WideShapes Go.ChangeAt Go.RowKit Go.Proofs.Ytnnlkjbnonkjmaa.words
open Ieee
set_option linter.unusedVariables false
theorem binade_val : double.binade = 2 ^ 52 := by decide
theorem inf_val : double.infRung = 2047 * 2 ^ 52 := by decide
theorem sign_val : double.signWeight = 2 ^ 63 := by decide
def rd (s : Bool) (r : Nat) : Datum :=
  if r < 2 ^ 52 then .number s r double.leastPlace
  else if r < 2047 * 2 ^ 52 then .number s (2 ^ 52 + r % 2 ^ 52) (double.leastPlace + (r / 2 ^ 52 - 1 : Nat))
  else if r = 2047 * 2 ^ 52 then .infinity s
  else .nan s (r - 2047 * 2 ^ 52)
theorem read_word (s : Bool) (r : Nat) (h : r < 2 ^ 63) : double.read (double.word s r) = rd s r := by
  have hs : (double.word s r / 2 ^ 63 % 2 == 1) = s := by
    unfold Format.word; rw [sign_val]
    cases s
    · simp only [Bool.false_eq_true, if_false]; rw [Nat.div_eq_of_lt h]; rfl
    · simp only [if_true]
      have : (2 ^ 63 + r) / 2 ^ 63 = 1 := by omega
      rw [this]; rfl
  have hr : double.word s r % 2 ^ 63 = r := by
    unfold Format.word; rw [sign_val]
    cases s
    · simp only [Bool.false_eq_true, if_false]; omega
    · simp only [if_true]; omega
  unfold Format.read rd
  simp only [sign_val, binade_val, inf_val, hs, hr]
theorem read_split (a : Nat) (h : a < 2 ^ 64) : ∃ s r, r < 2 ^ 63 ∧ a = double.word s r ∧ r = a % 2 ^ 63 ∧ (s = true ↔ 2 ^ 63 ≤ a) := by
  by_cases h1 : 2 ^ 63 ≤ a
  · exact ⟨true, a - 2 ^ 63, by omega, by unfold Format.word; rw [sign_val]; simp only [if_true]; omega, by omega, by simp [h1]⟩
  · exact ⟨false, a, by omega, by unfold Format.word; simp, by omega, by simp; omega⟩
theorem near_word (s : Bool) (m : Nat) (p : Int) : ∃ r, double.nearest s m p = double.word s r ∧ r ≤ 2047 * 2 ^ 52 ∧ (m = 0 → r = 0) := by
  unfold Format.nearest
  by_cases h : m = 0
  · rw [if_pos h]; exact ⟨0, rfl, by omega, fun _ => rfl⟩
  · rw [if_neg h]
    exact ⟨_, rfl, by rw [inf_val]; exact Nat.min_le_right _ _, fun e => absurd e h⟩
theorem cut_le (n d : Nat) (s : Bool) : Toward.even.cut s n d ≤ n / (1 <<< min d (n.log2 + 2)) + 1 := by
  unfold Toward.cut
  simp only
  have : ∀ b : Bool, b.toNat ≤ 1 := fun b => by cases b <;> decide
  exact Nat.add_le_add_left (this _) _
theorem kept_bd {k D : Nat} (h : k ≤ D + 1) (h2 : D ≤ 2 ^ 53) : k ≤ 2 ^ 53 + 1 := by omega
theorem rung_bd {L k : Nat} (hL : L ≤ 63) (h : k ≤ 2 ^ 53 + 1) : 2 ^ 52 ≤ min ((L + 1022) * 2 ^ 52 + k) (2047 * 2 ^ 52) ∧ min ((L + 1022) * 2 ^ 52 + k) (2047 * 2 ^ 52) < 2047 * 2 ^ 52 := by omega
theorem int_word (n : Int) (h0 : n ≠ 0) (h1 : n.natAbs ≤ 2 ^ 63) : ∃ r, floatOfInt .f64 n = double.word (decide (n < 0)) r ∧ 2 ^ 52 ≤ r ∧ r < 2047 * 2 ^ 52 := by
  have hm : n.natAbs ≠ 0 := by omega
  have e : floatOfInt .f64 n = double.nearest (decide (n < 0)) n.natAbs 0 := rfl
  rw [e]
  unfold Format.nearest
  rw [if_neg hm]
  generalize n.natAbs = m at *
  have hL1 : 2 ^ m.log2 ≤ m := Nat.log2_self_le hm
  have hL2 : m < 2 ^ (m.log2 + 1) := Nat.lt_log2_self
  have hL : m.log2 ≤ 63 := by
    refine Nat.le_of_not_lt fun h => ?_
    have := Nat.pow_le_pow_right (n := 2) (by decide) h
    omega
  generalize m.log2 = L at *
  have hf : (double.fractionBits : Int) = 52 := by decide
  rw [least_val, hf, binade_val, inf_val]
  have hl : max ((0 : Int) + L - 52) (-1074) = (L : Int) - 52 := by omega
  simp only [hl]
  have hk := cut_le (m <<< ((0 : Int) - ((L : Int) - 52)).toNat) (((L : Int) - 52) - 0).toNat (decide (n < 0))
  have hb : (m <<< ((0 : Int) - ((L : Int) - 52)).toNat) / (1 <<< min (((L : Int) - 52) - 0).toNat ((m <<< ((0 : Int) - ((L : Int) - 52)).toNat).log2 + 2)) ≤ 2 ^ 53 := by
    by_cases hc : L ≤ 52
    · refine Nat.le_trans (Nat.div_le_self _ _) ?_
      have e1 : ((0 : Int) - ((L : Int) - 52)).toNat = 52 - L := by omega
      rw [e1, Nat.shiftLeft_eq]
      have : m * 2 ^ (52 - L) < 2 ^ (L + 1) * 2 ^ (52 - L) := Nat.mul_lt_mul_of_pos_right hL2 (Nat.pow_pos (by decide))
      rw [← Nat.pow_add, show L + 1 + (52 - L) = 53 by omega] at this
      omega
    · have e1 : ((0 : Int) - ((L : Int) - 52)).toNat = 0 := by omega
      have e2 : (((L : Int) - 52) - 0).toNat = L - 52 := by omega
      rw [e1, e2, Nat.shiftLeft_zero]
      have hlog : L ≤ m.log2 := (Nat.le_log2 hm).2 hL1
      rw [Nat.min_eq_left (by omega), Nat.shiftLeft_eq, Nat.one_mul]
      refine Nat.le_of_lt (Nat.div_lt_of_lt_mul ?_)
      rw [← Nat.pow_add, show L - 52 + 53 = L + 1 by omega]
      exact hL2
  generalize Toward.even.cut (decide (n < 0)) (m <<< ((0 : Int) - ((L : Int) - 52)).toNat) (((L : Int) - 52) - 0).toNat = kept at *
  have hp : (((L : Int) - 52) - -1074).toNat = L + 1022 := by omega
  rw [hp]
  have h3 : kept ≤ 2 ^ 53 + 1 := by
    generalize (m <<< ((0 : Int) - ((L : Int) - 52)).toNat) / (1 <<< min (((L : Int) - 52) - 0).toNat ((m <<< ((0 : Int) - ((L : Int) - 52)).toNat).log2 + 2)) = D at hk hb
    exact kept_bd hk hb
  exact ⟨_, rfl, rung_bd hL h3⟩
theorem read_int (n : Int) (h1 : n.natAbs ≤ 2 ^ 63) : ∃ m p, double.read (floatOfInt .f64 n) = .number (decide (n < 0)) m p ∧ (m = 0 ↔ n = 0) := by
  by_cases h0 : n = 0
  · subst h0
    exact ⟨0, -1074, by decide, by simp⟩
  · obtain ⟨r, hr, h2, h3⟩ := int_word n h0 h1
    rw [hr, read_word _ _ (by omega)]
    unfold rd
    rw [if_neg (by omega), if_pos h3]
    refine ⟨_, _, rfl, ?_⟩
    constructor
    · intro e; omega
    · intro e; exact absurd e h0
theorem key_num {a : Nat} {s : Bool} {m : Nat} {p : Int} (h : double.read a = .number s m p) : key a = some (signed s m (p + 1074).toNat) := by
  unfold key; rw [h]; simp only [keyOf, least_val, show p - -1074 = p + 1074 by omega]
theorem signed_zero {s : Bool} {m e : Nat} : signed s m e = 0 ↔ m = 0 := by
  unfold signed
  rw [Nat.shiftLeft_eq]
  have hp : 0 < 2 ^ e := Nat.pow_pos (by decide)
  constructor
  · intro h
    have h2 : m * 2 ^ e = 0 := by cases s <;> simp only [Bool.false_eq_true, if_false, if_true] at h <;> omega
    rcases Nat.mul_eq_zero.1 h2 with h3 | h3
    · exact h3
    · omega
  · rintro rfl; cases s <;> simp
/-- what a word may be -/
inductive Kind (a : Nat) : Prop where
  | nan (h : key a = none) (hr : ∃ s f, double.read a = .nan s f)
  | inf (s : Bool) (h : key a = some (if s then -top else top)) (hr : double.read a = .infinity s) (hs : s = true ↔ 2 ^ 63 ≤ a)
  | zero (s : Bool) (p : Int) (h : key a = some 0) (hr : double.read a = .number s 0 p) (hs : s = true ↔ 2 ^ 63 ≤ a)
  | num (s : Bool) (m : Nat) (p : Int) (k : Int) (h : key a = some k) (hk : k ≠ 0) (hk2 : -top < k ∧ k < top) (hm : m ≠ 0) (hr : double.read a = .number s m p) (hs : s = true ↔ 2 ^ 63 ≤ a)
theorem kind (a : Nat) (ha : a < 2 ^ 64) : Kind a := by
  obtain ⟨s, r, h1, h2, h3, h4⟩ := read_split a ha
  have hr := read_word s r h1
  rw [← h2] at hr
  unfold rd at hr
  split at hr
  · have hk := key_num hr
    by_cases h0 : r = 0
    · subst h0
      refine .zero s _ ?_ hr h4
      rw [hk]; exact congrArg some (signed_zero.2 rfl)
    · refine .num s _ _ _ hk (fun e => h0 (signed_zero.1 e)) ?_ h0 hr h4
      obtain ⟨g1, g2, g3⟩ := read_num hr
      exact num_bd g1 g3 s
  · split at hr
    · have hk := key_num hr
      refine .num s _ _ _ hk (fun e => by have := signed_zero.1 e; omega) ?_ (by omega) hr h4
      obtain ⟨g1, g2, g3⟩ := read_num hr
      exact num_bd g1 g3 s
    · split at hr
      · exact .inf s (by unfold key; rw [hr]; rfl) hr h4
      · exact .nan (by unfold key; rw [hr]; rfl) ⟨_, _, hr⟩
/-- a word written from a number is none of NaN -/
theorem near_key (s : Bool) (m : Nat) (p : Int) : ∃ k, key (double.nearest s m p) = some k := by
  obtain ⟨r, h1, h2, h3⟩ := near_word s m p
  unfold key
  rw [h1, read_word _ _ (by omega)]
  unfold rd
  split
  · exact ⟨_, rfl⟩
  · split
    · exact ⟨_, rfl⟩
    · rw [if_pos (by omega)]; exact ⟨_, rfl⟩
theorem near_zero (s : Bool) (p : Int) : key (double.nearest s 0 p) = some 0 := by
  obtain ⟨r, h1, h2, h3⟩ := near_word s 0 p
  rw [h1, h3 rfl]
  cases s <;> decide +kernel
/-- what a division gives: the word, or some NaN -/
def quo (f b r : Nat) : Prop := double.div f b = some r ∨ (double.div f b = none ∧ key r = none)
theorem ratio_any (n : Int) (b : Nat) (w : World) : Calls Try.prog 16 #[.int .i64 n, .float .f64 b] w fun e w' => (∃ r, e = .returned (.float .f64 r) ∧ quo (floatOfInt .f64 n) b r) ∧ Below w.heap.size w w' := by
  obtain ⟨f, hf⟩ : ∃ f, floatOfInt .f64 n = f := ⟨_, rfl⟩
  cases h : floatBits .quo .f64 f b with
  | some r =>
    have hq := fun w => run_float_arith (P := Try.prog) w .quo 24 .f64 f b r h
    go_enter Try.func16, Try.ntmps16
    go_wp2
    go_ret
    exact ⟨⟨r, rfl, .inl (by rw [hf]; exact h)⟩, Below.refl _ _⟩
  | none =>
    have hq := fun w => run_float_nan Try.prog w .quo 24 f b (.inr (.inr rfl)) h
    have hk := key_nan w f b
    obtain ⟨r, hr⟩ : ∃ r, nanOf w f b = r := ⟨_, rfl⟩
    have hq0 := hq w
    rw [hr] at hq0 hk
    clear hq hr
    go_enter Try.func16, Try.ntmps16
    go_wp2
    go_ret
    exact ⟨⟨r, rfl, .inr ⟨by rw [hf]; exact h, hk⟩⟩, (Below.refl _ _).drew⟩
theorem clear_sign (a : Nat) (ha : a < 2 ^ 64) : bits .andNot .u64 (a : Int) 9223372036854775808 = ((a % 2 ^ 63 : Nat) : Int) := by
  have h1 : (BitVec.ofInt 64 (a : Int) &&& ~~~ (BitVec.ofInt 64 9223372036854775808)).toNat = a % 2 ^ 63 := by
    have e1 : BitVec.ofInt 64 (a : Int) = BitVec.ofNat 64 a := by simp
    have e2 : ~~~ (BitVec.ofInt 64 9223372036854775808) = BitVec.ofNat 64 (2 ^ 63 - 1) := by decide
    rw [e1, e2, BitVec.toNat_and, BitVec.toNat_ofNat, BitVec.toNat_ofNat, Nat.mod_eq_of_lt ha, Nat.mod_eq_of_lt (by decide : 2 ^ 63 - 1 < 2 ^ 64), Nat.and_two_pow_sub_one_eq_mod]
  show IntKind.u64.wrap (((BitVec.ofInt 64 (a : Int) &&& ~~~ (BitVec.ofInt 64 9223372036854775808)).toNat : Nat) : Int) = _
  rw [h1]
  have h2 : a % 2 ^ 63 < 2 ^ 63 := Nat.mod_lt _ (by decide)
  generalize a % 2 ^ 63 = x at h2
  simp [IntKind.wrap, IntKind.signed, IntKind.bits]; omega
theorem max_key : key 9218868437227405311 = some (signed false (2 ^ 53 - 1) 2045) := by decide +kernel
theorem max_not {a m : Nat} {p : Int} (h : double.read a = .number false m p) (hm : m ≤ 2 ^ 53 - 1) (hp : p + 1074 ≤ 2045) : ¬ signed false (2 ^ 53 - 1) 2045 < signed false m (p + 1074).toNat := by
  unfold signed
  simp only [Bool.false_eq_true, if_false, Nat.shiftLeft_eq]
  have h1 : ∀ E, (p + 1074).toNat ≤ E → m * 2 ^ (p + 1074).toNat ≤ (2 ^ 53 - 1) * 2 ^ E := fun E hE => Nat.mul_le_mul hm (Nat.pow_le_pow_right (by decide) hE)
  have hE : (p + 1074).toNat ≤ 2045 := by omega
  generalize 2045 = E at hE ⊢
  exact Int.not_lt.2 (Int.ofNat_le.2 (h1 E hE))
theorem inf_gt (a : Nat) (ha : a < 2 ^ 64) : (FloatKind.f64.format.order (a % 2 ^ 63) 9218868437227405311 == some .gt) = (double.read a).isInfinity := by
  refine (gt_key (a % 2 ^ 63) 9218868437227405311).trans ?_
  obtain ⟨s, r, h1, h2, h3, h4⟩ := read_split a ha
  have e0 : a % 2 ^ 63 = double.word false r := by rw [← h3]; unfold Format.word; simp
  have hr := read_word s r h1
  have hr0 := read_word false r h1
  rw [max_key, e0]
  rw [← h2] at hr
  rw [hr]
  have ht := num_bd (m := 2 ^ 53 - 1) (p := 971) (by decide) (by decide) false
  unfold rd at hr0 ⊢
  by_cases hc : r < 2 ^ 52
  · rw [if_pos hc] at hr0
    rw [key_num hr0, if_pos hc]
    simp only [Datum.isInfinity]
    rw [decide_eq_false_iff_not]
    exact max_not hr0 (by omega) (by rw [least_val]; omega)
  · by_cases hc2 : r < 2047 * 2 ^ 52
    · rw [if_neg hc, if_pos hc2] at hr0
      rw [key_num hr0, if_neg hc, if_pos hc2]
      simp only [Datum.isInfinity]
      rw [decide_eq_false_iff_not]
      have h5 : r / 2 ^ 52 ≤ 2046 := by omega
      exact max_not hr0 (by omega) (by rw [least_val]; omega)
    · by_cases hc3 : r = 2047 * 2 ^ 52
      · rw [if_neg hc, if_neg hc2, if_pos hc3] at hr0
        have : key (double.word false r) = some top := by unfold key; rw [hr0]; rfl
        rw [this, if_neg hc, if_neg hc2, if_pos hc3]
        simp only [Datum.isInfinity]
        rw [decide_eq_true_eq]
        exact ht.2
      · rw [if_neg hc, if_neg hc2, if_neg hc3] at hr0
        have : key (double.word false r) = none := by unfold key; rw [hr0]; rfl
        rw [this, if_neg hc, if_neg hc2, if_neg hc3]
        rfl
theorem abs_any (a : Nat) (w : World) (ha : a < 2 ^ 64) : Calls Try.prog 14 #[.float .f64 a] w fun e w' => e = .returned (.float .f64 (a % 2 ^ 63)) ∧ w = w' := by
  have b1 := clear_sign a ha
  obtain ⟨x, hx⟩ : ∃ x, a % 2 ^ 63 = x := ⟨_, rfl⟩
  rw [hx] at b1 ⊢
  clear hx
  have f1 := fun w => tobits a w
  have f2 := fun w => frombits (x : Int) w
  rw [Int.toNat_natCast] at f2
  go_enter Try.func14, Try.ntmps14
  go_wp2
  go_ret
  exact ⟨rfl, rfl⟩
theorem isinf_any (a : Nat) (w : World) (ha : a < 2 ^ 64) : Calls Try.prog 15 #[.float .f64 a, .int .i64 0] w fun e w' => e = .returned (.bool (double.read a).isInfinity) ∧ w = w' := by
  have b1 := inf_gt a ha
  have f1 := fun w => abs_any a w ha
  obtain ⟨x, hx⟩ : ∃ x, a % 2 ^ 63 = x := ⟨_, rfl⟩
  rw [hx] at b1 f1
  rw [← b1]
  clear hx b1
  go_enter Try.func15, Try.ntmps15
  go_wp2_with (first
    | (go_at_call 14; (with_reducible refine (f1 _).mono ?_); rintro e w' ⟨rfl, rfl⟩))
  go_ret
  exact ⟨rfl, rfl⟩
theorem signbit_any (a : Nat) (w : World) (ha : a < 2 ^ 64) : Calls Try.prog 17 #[.float .f64 a] w fun e w' => e = .returned (.bool (decide (2 ^ 63 ≤ a))) ∧ w = w' := by
  have f1 := fun w => tobits a w
  by_cases h : 2 ^ 63 ≤ a
  · have h1 : IntKind.i64.wrap (a : Int) = (a : Int) - 18446744073709551616 := by rw [IntKind.wrap_i64]; omega
    rw [decide_eq_true h]
    have h2 : (9223372036854775808 : Int) ≤ a := by omega
    have h3 : (a : Int) < 18446744073709551616 := by omega
    clear h ha
    go_enter Try.func17, Try.ntmps17
    go_wp2
    go_ret
    exact ⟨ret_bool (by rw [decide_eq_true_eq]; omega), rfl⟩
  · have h1 : IntKind.i64.wrap (a : Int) = (a : Int) := by rw [IntKind.wrap_i64]; omega
    rw [decide_eq_false h]
    have h2 : (a : Int) < 9223372036854775808 := by omega
    clear h ha
    go_enter Try.func17, Try.ntmps17
    go_wp2
    go_ret
    exact ⟨rfl, rfl⟩
theorem key_0 : key 0 = some 0 := by decide +kernel
theorem eq_key (a b : Nat) : (FloatKind.f64.format.order a b == some .eq) = match key a, key b with | some x, some y => decide (x = y) | _, _ => false := by
  refine (congrArg (· == some Ordering.eq) (order_key a b)).trans ?_
  cases key a with
  | none => rfl
  | some x => cases key b with
    | none => rfl
    | some y =>
      simp only []
      rcases Int.lt_trichotomy x y with h | h | h
      · rw [cmp_lt h, decide_eq_false (by omega)]; rfl
      · subst h; rw [cmp_eq, decide_eq_true rfl]; rfl
      · rw [cmp_gt h, decide_eq_false (by omega)]; rfl
theorem same_self {a : Nat} {k : Int} (h : key a = some k) : (FloatKind.f64.format.order a a == some .eq) = true := by rw [eq_key, h]; simp
theorem is_zero (a : Nat) : (FloatKind.f64.format.order a 0 == some .eq) = match key a with | some x => decide (x = 0) | none => false := by
  rw [eq_key, key_0]; cases key a <;> rfl
theorem not_zero (a : Nat) : (FloatKind.f64.format.order a 0 != some .eq) = !(match key a with | some x => decide (x = 0) | none => false) := by
  rw [← is_zero]; rfl
theorem one_over (a : Nat) (h : key a = some 0) : ∃ r k, floatBits .quo .f64 4607182418800017408 a = some r ∧ key r = some k := by
  have h1 : double.read 4607182418800017408 = .number false (2 ^ 52) (-52) := by decide +kernel
  have : ∃ s p, double.read a = .number s 0 p := by
    unfold key at h
    cases hr : double.read a with
    | nan s f => rw [hr] at h; cases h
    | infinity s =>
      rw [hr] at h
      have := top_pos
      simp only [keyOf] at h
      injection h with h
      cases s <;> simp at h <;> omega
    | number s m p =>
      rw [hr] at h
      simp only [keyOf] at h
      injection h with h
      obtain rfl := signed_zero.1 h
      exact ⟨s, p, rfl⟩
  obtain ⟨s, p, hr⟩ := this
  have h2 : floatBits .quo .f64 4607182418800017408 a = some (double.write (.infinity s)) := by
    show double.div 4607182418800017408 a = _
    unfold Format.div
    rw [h1, hr]
    simp [Datum.quotient]
  cases s
  · exact ⟨_, top, h2, by decide +kernel⟩
  · exact ⟨_, -top, h2, by decide +kernel⟩
theorem same_refl (a : Nat) (w : World) : Calls Try.prog 18 #[.float .f64 a, .float .f64 a] w fun e w' => e = .returned (.bool true) ∧ w = w' := by
  have hn := fun w => isnan_any 28 (.inr rfl) a w
  cases hk : key a with
  | none =>
    rw [hk] at hn
    go_enter Try.func18, Try.ntmps18
    go_wp2_with (first
      | (go_at_call 28; (with_reducible refine (hn _).mono ?_); rintro e w' ⟨rfl, rfl⟩))
    go_ret
    exact ⟨rfl, rfl⟩
  | some k =>
    rw [hk] at hn
    have h1 := same_self hk
    have h2 := not_zero a
    rw [hk] at h2
    by_cases h0 : k = 0
    · subst h0
      obtain ⟨r, kr, hr, hkr⟩ := one_over a hk
      have h3 := same_self hkr
      have hq := fun w => run_float_arith (P := Try.prog) w .quo 24 .f64 4607182418800017408 a r hr
      simp only [decide_true, Bool.not_true] at h2
      clear hk hkr hr
      go_enter Try.func18, Try.ntmps18
      go_wp2_with (first
        | (go_at_call 28; (with_reducible refine (hn _).mono ?_); rintro e w' ⟨rfl, rfl⟩))
      go_ret
      exact ⟨rfl, rfl⟩
    · simp only [decide_eq_false h0, Bool.not_false] at h2
      clear hk h0
      go_enter Try.func18, Try.ntmps18
      go_wp2_with (first
        | (go_at_call 28; (with_reducible refine (hn _).mono ?_); rintro e w' ⟨rfl, rfl⟩))
      go_ret
      exact ⟨rfl, rfl⟩
end Go.Proofs.Ytnnlkjbnonkjmaa.flo
