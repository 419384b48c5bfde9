/- Sets of values as bits of a number: plain arithmetic, no program. -/
import Derived.Test.YtcmglgkopgfheaaDoorLow
namespace Go.Proofs.YtcmglgkopgfheaaDoor.bit
/-- a without b's bits -/
def andn (a b : Nat) : Nat := a &&& (2 ^ 64 - (b + 1))
theorem andn_bit (a b i : Nat) (hb : b < 2 ^ 64) (ha : a < 2 ^ 64) : (andn a b).testBit i = (a.testBit i && !b.testBit i) := by
  unfold andn
  rw [Nat.testBit_and, Nat.testBit_two_pow_sub_succ hb]
  by_cases hi : i < 64
  · simp [hi]
  · have : a.testBit i = false := Nat.testBit_lt_two_pow (Nat.lt_of_lt_of_le ha (Nat.pow_le_pow_right (by decide) (by omega)))
    simp [this]
theorem andn_le (a b : Nat) : andn a b ≤ a := Nat.and_le_left
theorem bit_ge {a n i : Nat} (ha : a < 2 ^ n) (hi : n ≤ i) : a.testBit i = false :=
  Nat.testBit_lt_two_pow (Nat.lt_of_lt_of_le ha (Nat.pow_le_pow_right (by decide) hi))
theorem p64 {a n : Nat} (ha : a < 2 ^ n) (hn : n ≤ 32) : a < 2 ^ 64 := Nat.lt_of_lt_of_le ha (Nat.pow_le_pow_right (by decide) (by omega))
theorem pow_bit (v i : Nat) : (2 ^ v).testBit i = decide (v = i) := Nat.testBit_two_pow
theorem pow_lt {v n : Nat} (h : v < n) : 2 ^ v < 2 ^ n := Nat.pow_lt_pow_right (by decide) h
/-- without v; with v; v alone -/
def dropB (a v : Nat) : Nat := andn a (2 ^ v)
def putB (a v : Nat) : Nat := a ||| 2 ^ v
def onlyB (a v : Nat) : Nat := if a.testBit v then 2 ^ v else 0
theorem drop_bit {a n v i : Nat} (ha : a < 2 ^ n) (hn : n ≤ 32) (hv : v < n) : (dropB a v).testBit i = (a.testBit i && !decide (v = i)) := by
  unfold dropB
  rw [andn_bit _ _ _ (p64 (pow_lt hv) hn) (p64 ha hn), pow_bit]
theorem drop_lt {a n : Nat} (v : Nat) (ha : a < 2 ^ n) : dropB a v < 2 ^ n := Nat.lt_of_le_of_lt (andn_le _ _) ha
theorem put_bit (a v i : Nat) : (putB a v).testBit i = (a.testBit i || decide (v = i)) := by
  unfold putB; rw [Nat.testBit_or, pow_bit]
theorem put_lt {a n v : Nat} (ha : a < 2 ^ n) (hv : v < n) : putB a v < 2 ^ n := Nat.or_lt_two_pow ha (pow_lt hv)
theorem only_bit (a v i : Nat) : (onlyB a v).testBit i = (a.testBit v && decide (v = i)) := by
  unfold onlyB
  cases a.testBit v <;> simp [pow_bit]
theorem only_lt {n v : Nat} (a : Nat) (hv : v < n) : onlyB a v < 2 ^ n := by
  unfold onlyB; split
  · exact pow_lt hv
  · exact Nat.pow_pos (by decide)
theorem and_lt {a b n : Nat} (ha : a < 2 ^ n) : a &&& b < 2 ^ n := Nat.lt_of_le_of_lt Nat.and_le_left ha
theorem eq_of_bits {a b n : Nat} (ha : a < 2 ^ n) (hb : b < 2 ^ n) (h : ∀ i, i < n → a.testBit i = b.testBit i) : a = b := by
  apply Nat.eq_of_testBit_eq
  intro i
  by_cases hi : i < n
  · exact h i hi
  · rw [bit_ge ha (by omega), bit_ge hb (by omega)]
theorem popc_count : ∀ (k x : Nat), popc k x = (List.range k).countP x.testBit
  | 0, _ => rfl
  | k + 1, x => by
    rw [popc, popc_count k (x / 2), List.range_succ_eq_map, List.countP_cons, List.countP_map]
    have h1 : (x.testBit ∘ Nat.succ) = (x / 2).testBit := by
      funext i; rw [Function.comp, Nat.succ_eq_add_one, Nat.testBit_succ]
    rw [h1]
    have h2 : (if x.testBit 0 then 1 else 0) = x % 2 := by
      rw [Nat.testBit_zero]
      have : x % 2 < 2 := Nat.mod_lt _ (by decide)
      by_cases h : x % 2 = 1
      · simp [h]
      · simp [h]; omega
    rw [h2]; omega
theorem popc_mono {a b : Nat} (k : Nat) (h : ∀ i, a.testBit i = true → b.testBit i = true) : popc k a ≤ popc k b := by
  rw [popc_count, popc_count]
  exact List.countP_mono_left fun i _ hi => h i hi
/-- the values of a set of n, rising -/
def vals (a n : Nat) : List Int := ((List.range n).filter a.testBit).map Int.ofNat
theorem vals_succ (a n : Nat) : vals a (n + 1) = vals a n ++ (if a.testBit n then [(n : Int)] else []) := by
  unfold vals
  rw [List.range_succ, List.filter_append, List.map_append]
  congr 1
  simp only [List.filter_cons, List.filter_nil]
  split <;> rfl
theorem vals_mem (a n : Nat) (x : Int) : x ∈ vals a n ↔ ∃ i : Nat, i < n ∧ a.testBit i = true ∧ x = i := by
  unfold vals
  simp only [List.mem_map, List.mem_filter, List.mem_range]
  constructor
  · rintro ⟨i, ⟨h1, h2⟩, rfl⟩; exact ⟨i, h1, h2, rfl⟩
  · rintro ⟨i, h1, h2, rfl⟩; exact ⟨i, ⟨h1, h2⟩, rfl⟩
theorem vals_len_le (a n : Nat) : (vals a n).length ≤ n := by
  unfold vals
  rw [List.length_map]
  exact Nat.le_trans (List.length_filter_le _ _) (by simp)
theorem popc_vals {a n : Nat} (ha : a < 2 ^ n) (hn : n ≤ 64) : popc 64 a = (vals a n).length := by
  have h : ∀ d, popc (n + d) a = popc n a := by
    intro d
    induction d with
    | zero => rfl
    | succ d ih =>
      rw [popc_count, show n + (d + 1) = (n + d) + 1 from rfl, List.range_succ, List.countP_append, ← popc_count, ih]
      have := bit_ge ha (show n ≤ n + d by omega)
      simp [List.countP_cons, this]
  have := h (64 - n)
  rw [show n + (64 - n) = 64 by omega] at this
  rw [this, popc_count, vals, List.length_map, List.countP_eq_length_filter]
/-- what comes behind v: r -/
def Nx (a n : Nat) (v r : Int) : Prop :=
  (r = -1 ∧ ∀ i : Nat, i < n → v < i → a.testBit i = false) ∨ (∃ j : Nat, j < n ∧ r = j ∧ v < j ∧ a.testBit j = true ∧ ∀ i : Nat, v < i → i < j → a.testBit i = false)
theorem Nx.uniq {a n : Nat} {v r s : Int} (h : Nx a n v r) (k : Nx a n v s) : r = s := by
  rcases h with ⟨h1, h2⟩ | ⟨j, h0, h1, h2, h3, h4⟩ <;> rcases k with ⟨k1, k2⟩ | ⟨i, k0, k1, k2, k3, k4⟩
  · omega
  · have := h2 i k0 k2; rw [k3] at this; cases this
  · have := k2 j h0 h2; rw [h3] at this; cases this
  · rcases Nat.lt_trichotomy i j with h | h | h
    · have := h4 i k2 h; rw [k3] at this; cases this
    · omega
    · have := k4 j h2 h; rw [h3] at this; cases this
/-- the lowest bit of a number that isn't 0 -/
theorem low_bit (j q : Nat) : (2 ^ j * (2 * q + 1)).testBit j = true ∧ ∀ i, i < j → (2 ^ j * (2 * q + 1)).testBit i = false := by
  constructor
  · rw [Nat.testBit_two_pow_mul]; simp
  · intro i hi
    rw [Nat.testBit_two_pow_mul]
    simp; omega
end Go.Proofs.YtcmglgkopgfheaaDoor.bit
